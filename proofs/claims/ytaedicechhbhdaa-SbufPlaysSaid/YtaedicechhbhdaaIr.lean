/- The functions' own form, printed by a tool of this session out of the given translation. -/
import Derived.Test.YtaedicechhbhdaaVf
import Derived.Test.YtaedicechhbhdaaChecked
import Derived.KernelRfl
namespace Go.Proofs.Ytaedicechhbhdaa
open Go Go.Vm
def glT : List (Nat × List V) := []
abbrev n_undertowlaw13_SbufFinds : Nat := 3
abbrev n_undertowlaw13_SbufOrder : Nat := 4
abbrev n_undertowlaw13_SbufSame : Nat := 5
abbrev n_undertowlaw13_SbufPlays : Nat := 6
abbrev n_undertowlaw13_SbufNone : Nat := 7
abbrev n_undertowlaw13_alive : Nat := 8
abbrev n_sbuf_Buffer_Put : Nat := 9
abbrev n_sbuf_Buffer_Barrier : Nat := 10
abbrev n_sbuf_Buffer_Drain : Nat := 11
abbrev n_undertowref01_Zext : Nat := 12
abbrev n_sbuf_Buffer_Find : Nat := 13
abbrev n_sbuf_Buffer_Empty : Nat := 14
abbrev n_sbuf_Buffer_Ready : Nat := 15
abbrev n_undertowref01_Overlap : Nat := 16
abbrev n_undertowref01_SameBytes : Nat := 17
abbrev n_sbuf_Buffer_Fits : Nat := 18
abbrev n_undertowref13_Buffer_Put : Nat := 19
abbrev n_undertowref13_Buffer_Barrier : Nat := 20
abbrev n_undertowref12_SameWrites : Nat := 21
abbrev n_undertowref13_Buffer_Drain : Nat := 22
abbrev n_undertowref13_Buffer_Find : Nat := 23
abbrev n_sbuf_Buffer_Overlaps : Nat := 24
abbrev n_undertowref13_Buffer_Overlaps : Nat := 25
abbrev n_undertowlaw13_same : Nat := 26
abbrev n_sbuf_Buffer_Entries : Nat := 27
abbrev n_sbuf_Buffer_Elder : Nat := 28
abbrev n_undertowref02_SameInts : Nat := 29
abbrev n_word_Zext : Nat := 30
abbrev n_sbuf_Buffer_place : Nat := 31
abbrev n_slices_ContainsFunc_sbuf_entry_sbuf_entry : Nat := 32
abbrev n_sbuf_Buffer_Barrier_1 : Nat := 33
abbrev n_slices_Contains_int_int : Nat := 34
abbrev n_slices_Delete_sbuf_entry_sbuf_entry : Nat := 35
abbrev n_sbuf_Buffer_least : Nat := 36
abbrev n_sbuf_may : Nat := 37
abbrev n_undertowref13_May : Nat := 38
abbrev n_undertowref13_Buffer_Entries : Nat := 39
abbrev n_undertowref13_together : Nat := 40
abbrev n_undertowref13_Buffer_Ready : Nat := 41
abbrev n_word_Overlap : Nat := 42
abbrev n_undertowref13_Buffer_Elder : Nat := 43
abbrev n_slices_Clone_api_Write_api_Write : Nat := 44
abbrev n_slices_IndexFunc_sbuf_entry_sbuf_entry : Nat := 45
abbrev n_slices_Index_int_int : Nat := 46
abbrev n_word_Aligned : Nat := 47
abbrev n_undertowref01_Aligned : Nat := 48
abbrev n_word_isRange : Nat := 49
/-- 3: undertow/undertowlaw13.SbufFinds -/
def h3 : Vm.Hint := ⟨[0, 2, 3, 4, 5, 6, 7, 8, 9, 10, 11, 12, 13, 14, 15, 16, 17, 18, 19, 21, 31, 43, 44, 48, 53, 57, 66, 72, 135, 144, 147, 160, 184, 218], [6], [], [[0], [0, 0], [0], [0, 0, 0], [0], [0], [0, 0, 0, 0, 0, 0, 0, 0], [0, 0, 0], [0, 0, 0, 0, 0, 1, 0], [0, 0, 0, 0, 0], [0, 0], [0, 0, 1], [0, 0, 1, 2, 0], [0, 0], [0, 1], [0, 0], [0, 0, 0, 1, 0], [0], [0, 0, 0, 0], [0, 0, 0], [0], [0], [0], [0, 0, 0, 0], [0, 0, 0], [0, 0, 0, 0, 0, 0, 0, 0, 0, 0, 0, 0, 0, 0, 0, 0, 0, 0, 0, 0, 0, 0, 0, 0, 0, 0, 0, 0, 0, 0, 0, 0, 0, 0, 0, 0, 0, 0, 0, 0, 0, 0, 0, 0, 0, 0, 0, 0, 0, 0, 0, 0, 0, 0, 0, 0, 0, 0, 0, 0, 0], [0], [0, 0, 0, 0, 0, 1, 2, 0], [0, 0], [0], [0, 0], [0], [0, 0], [0, 0, 0], [0, 0, 0, 0, 0, 0, 0, 0, 0, 0], [0, 0, 0], [0], [0, 0, 0, 0], [0, 0, 0], [0, 0, 0, 0, 0, 0, 0, 0, 0, 0, 0, 0, 0, 0, 0, 0, 0, 0, 0, 0, 0, 0], [0, 0, 0, 0, 0, 0, 0, 0, 0, 0, 0, 0, 0, 0, 0, 0, 0], [0, 0, 0, 0, 0, 0], [0], [0, 0, 0, 0, 0, 0, 0, 0, 0, 0, 0, 0, 0], [0], [0, 0]], [([1], []), ([], []), ([0, 19], []), ([19], []), ([], []), ([], []), ([], []), ([11, 30], []), ([20], []), ([], []), ([], []), ([21, 22], []), ([5, 23], [(true, 0)]), ([22], []), ([5, 21, 24], [(true, 0)]), ([21, 24], []), ([5, 25], [(true, 0)]), ([], []), ([], []), ([], []), ([26], []), ([], []), ([], []), ([], []), ([], []), ([27], []), ([28], []), ([28], []), ([3, 9, 10, 27], []), ([0, 2, 4, 6, 7, 8, 29], []), ([8, 29], []), ([5, 6, 7, 23, 25, 26], [(true, 0)]), ([], []), ([33], []), ([30], []), ([], []), ([], []), ([], []), ([32], []), ([31], []), ([16, 17, 32], []), ([], []), ([], []), ([12, 13, 14, 15, 16, 17, 18, 31], []), ([0, 2, 3, 4, 11, 33], []), ([0, 2, 3, 4, 20], [])], []⟩
def ir_undertowlaw13_SbufFindsl0 : C :=
 .seq (.seq (.reg [⟨.mv (.s 10), none⟩,
   ⟨.mv (.s 3), none⟩,
   ⟨.len 1 (.r 1), none⟩,
   ⟨.bin .lss (.r 0) (.r 2), none⟩] [] [] [(27, 3, none)])
 (.cond (.s 27) (.skip)
  (.exit 5)))
 (.seq (.block 6 (.seq (.seq (.seq (.reg [⟨.mv (.s 9), none⟩,
    ⟨.un .not (.r 0), none⟩,
    ⟨.mv (.r 1), none⟩,
    ⟨.mv (.s 3), some (2, true)⟩,
    ⟨.mv (.s 10), some (2, true)⟩,
    ⟨.iaS 4 (.r 3) (.r 4), some (2, true)⟩,
    ⟨.off 0 (.r 5), some (2, true)⟩,
    ⟨.load 0 false 1 (.r 6), some (2, true)⟩,
    ⟨.mv (.s 6), some (2, true)⟩,
    ⟨.mv (.s 7), some (2, true)⟩,
    ⟨.iaS 4 (.r 8) (.r 9), some (2, true)⟩,
    ⟨.off 0 (.r 10), some (2, true)⟩,
    ⟨.load 0 false 1 (.r 11), some (2, true)⟩,
    ⟨.bin .eql (.r 7) (.r 12), some (2, true)⟩,
    ⟨.pick (.r 2) (.r 13) (.c (.bool false)), none⟩,
    ⟨.mv (.r 14), none⟩,
    ⟨.mv (.s 3), some (15, true)⟩,
    ⟨.mv (.s 10), some (15, true)⟩,
    ⟨.iaS 4 (.r 16) (.r 17), some (15, true)⟩,
    ⟨.off 1 (.r 18), some (15, true)⟩,
    ⟨.load 0 false 1 (.r 19), some (15, true)⟩,
    ⟨.mv (.s 6), some (15, true)⟩,
    ⟨.mv (.s 7), some (15, true)⟩,
    ⟨.iaS 4 (.r 21) (.r 22), some (15, true)⟩,
    ⟨.off 1 (.r 23), some (15, true)⟩,
    ⟨.load 0 false 1 (.r 24), some (15, true)⟩,
    ⟨.bin .eql (.r 20) (.r 25), some (15, true)⟩,
    ⟨.pick (.r 15) (.r 26) (.c (.bool false)), none⟩,
    ⟨.mv (.r 27), none⟩,
    ⟨.mv (.s 3), some (28, true)⟩,
    ⟨.mv (.s 10), some (28, true)⟩,
    ⟨.iaS 4 (.r 29) (.r 30), some (28, true)⟩,
    ⟨.off 2 (.r 31), some (28, true)⟩,
    ⟨.load 0 false 1 (.r 32), some (28, true)⟩,
    ⟨.mv (.s 6), some (28, true)⟩,
    ⟨.mv (.s 7), some (28, true)⟩,
    ⟨.iaS 4 (.r 34) (.r 35), some (28, true)⟩,
    ⟨.off 2 (.r 36), some (28, true)⟩,
    ⟨.load 0 false 1 (.r 37), some (28, true)⟩,
    ⟨.bin .eql (.r 33) (.r 38), some (28, true)⟩,
    ⟨.pick (.r 28) (.r 39) (.c (.bool false)), none⟩,
    ⟨.mv (.r 40), none⟩,
    ⟨.mv (.s 3), some (41, true)⟩,
    ⟨.mv (.s 10), some (41, true)⟩,
    ⟨.iaS 4 (.r 42) (.r 43), some (41, true)⟩,
    ⟨.off 3 (.r 44), some (41, true)⟩,
    ⟨.load 0 false 1 (.r 45), some (41, true)⟩,
    ⟨.mv (.s 3), some (41, true)⟩,
    ⟨.mv (.s 10), some (41, true)⟩,
    ⟨.iaS 4 (.r 47) (.r 48), some (41, true)⟩,
    ⟨.off 2 (.r 49), some (41, true)⟩,
    ⟨.load 0 false 1 (.r 50), some (41, true)⟩,
    ⟨.bin .mul (.c (.int .i64 8)) (.r 51), some (41, true)⟩,
    ⟨.call .val n_undertowref01_Zext [(.r 46), (.r 52)], some (41, true)⟩,
    ⟨.mv (.s 6), some (41, true)⟩,
    ⟨.mv (.s 7), some (41, true)⟩,
    ⟨.iaS 4 (.r 54) (.r 55), some (41, true)⟩,
    ⟨.off 3 (.r 56), some (41, true)⟩,
    ⟨.load 0 false 1 (.r 57), some (41, true)⟩,
    ⟨.bin .eql (.r 53) (.r 58), some (41, true)⟩,
    ⟨.pick (.r 41) (.r 59) (.c (.bool false)), none⟩] [] [(5, 10), (5, 12), (7, 10), (7, 12), (18, 23), (18, 25), (20, 23), (20, 25), (31, 36), (31, 38), (33, 36), (33, 38), (44, 49), (44, 51), (44, 56), (44, 58), (46, 49), (46, 51), (46, 56), (46, 58), (49, 56), (49, 58), (51, 56), (51, 58), (53, 56), (53, 58)] [(28, 60, none)])
  (.drop [27] []))
  (.cond (.s 28) (.seq (.seq (.reg [⟨.mv (.c (.bool true)), none⟩] [] [] [(9, 0, none)])
   (.drop [28] []))
   (.exit 6))
   (.skip)))
  (.seq (.reg [⟨.mv (.s 8), none⟩,
    ⟨.mv (.s 3), none⟩,
    ⟨.mv (.s 10), none⟩,
    ⟨.iaS 4 (.r 1) (.r 2), none⟩,
    ⟨.load 0 true 4 (.r 3), none⟩,
    ⟨.lit 1 4 [[.int .i64 0, .int .i64 0, .int .i64 0, .int .u64 0]] [(0, (.r 4))], none⟩,
    ⟨.app 2 4 32 (.r 0) (.r 5), none⟩,
    ⟨.mv (.r 6), none⟩] [] [] [(8, 7, none)])
  (.drop [28] []))))
 (.reg [⟨.mv (.s 10), none⟩,
   ⟨.bin .add (.r 0) (.c (.int .i64 1)), none⟩,
   ⟨.mv (.r 1), none⟩] [] [] [(10, 2, none)]))
def ir_undertowlaw13_SbufFindsl1 : C :=
 .seq (.seq (.reg [⟨.mv (.s 7), none⟩,
   ⟨.mv (.s 6), none⟩,
   ⟨.len 1 (.r 1), none⟩,
   ⟨.bin .lss (.r 0) (.r 2), none⟩] [] [] [(26, 3, none)])
 (.cond (.s 26) (.skip)
  (.exit 3)))
 (.seq (.block 4 (.seq (.seq (.reg [⟨.mv (.c (.nils)), none⟩] [] [] [(8, 0, none)])
  (.drop [26] []))
  (.seq (.reg [⟨.mv (.c (.bool false)), none⟩] [] [] [(9, 0, none)])
  (.seq (.seq (.reg [⟨.mv (.c (.int .i64 0)), none⟩] [] [] [(10, 0, none)])
  (.block 5 (.loop ir_undertowlaw13_SbufFindsl0)))
  (.seq (.seq (.seq (.reg [⟨.mv (.s 9), none⟩,
    ⟨.un .not (.r 0), none⟩] [] [] [(29, 1, none)])
  (.drop [3, 9, 10, 27] []))
  (.cond (.s 29) (.seq (.seq (.reg [⟨.mv (.c (.bool false)), none⟩] [] [] [(1, 0, none)])
   (.drop [0, 2, 4, 6, 7, 8, 29] []))
   (.ret))
   (.skip)))
  (.seq (.reg [⟨.mv (.s 8), none⟩,
    ⟨.mv (.r 0), none⟩] [] [] [(3, 1, none)])
  (.drop [8, 29] [])))))))
 (.reg [⟨.mv (.s 7), none⟩,
   ⟨.bin .add (.r 0) (.c (.int .i64 1)), none⟩,
   ⟨.mv (.r 1), none⟩] [] [] [(7, 2, none)]))
def ir_undertowlaw13_SbufFindsl2 : C :=
 .seq (.seq (.reg [⟨.mv (.s 18), none⟩,
   ⟨.mv (.s 3), none⟩,
   ⟨.len 1 (.r 1), none⟩,
   ⟨.bin .lss (.r 0) (.r 2), none⟩] [] [] [(31, 3, none)])
 (.cond (.s 31) (.skip)
  (.exit 9)))
 (.seq (.block 10 (.seq (.seq (.reg [⟨.mv (.s 11), none⟩,
    ⟨.mv (.s 3), none⟩,
    ⟨.mv (.s 18), none⟩,
    ⟨.iaS 4 (.r 1) (.r 2), none⟩,
    ⟨.off 1 (.r 3), none⟩,
    ⟨.load 0 false 1 (.r 4), none⟩,
    ⟨.bin .geq (.r 0) (.r 5), none⟩,
    ⟨.mv (.r 6), none⟩,
    ⟨.mv (.s 11), some (7, true)⟩,
    ⟨.mv (.s 3), some (7, true)⟩,
    ⟨.mv (.s 18), some (7, true)⟩,
    ⟨.iaS 4 (.r 9) (.r 10), some (7, true)⟩,
    ⟨.off 1 (.r 11), some (7, true)⟩,
    ⟨.load 0 false 1 (.r 12), some (7, true)⟩,
    ⟨.mv (.s 3), some (7, true)⟩,
    ⟨.mv (.s 18), some (7, true)⟩,
    ⟨.iaS 4 (.r 14) (.r 15), some (7, true)⟩,
    ⟨.off 2 (.r 16), some (7, true)⟩,
    ⟨.load 0 false 1 (.r 17), some (7, true)⟩,
    ⟨.bin .add (.r 13) (.r 18), some (7, true)⟩,
    ⟨.bin .lss (.r 8) (.r 19), some (7, true)⟩,
    ⟨.pick (.r 7) (.r 20) (.c (.bool false)), none⟩] [] [(11, 16), (11, 18), (13, 16), (13, 18)] [(32, 21, none)])
  (.drop [31] []))
  (.cond (.s 32) (.seq (.seq (.reg [⟨.mv (.s 3), none⟩,
     ⟨.mv (.s 18), none⟩,
     ⟨.iaS 4 (.r 0) (.r 1), none⟩,
     ⟨.off 3 (.r 2), none⟩,
     ⟨.load 0 false 1 (.r 3), none⟩,
     ⟨.mv (.s 11), none⟩,
     ⟨.mv (.s 3), none⟩,
     ⟨.mv (.s 18), none⟩,
     ⟨.iaS 4 (.r 6) (.r 7), none⟩,
     ⟨.off 1 (.r 8), none⟩,
     ⟨.load 0 false 1 (.r 9), none⟩,
     ⟨.bin .sub (.r 5) (.r 10), none⟩,
     ⟨.bin .mul (.c (.int .i64 8)) (.r 11), none⟩,
     ⟨.i2i .u64 (.r 12), none⟩,
     ⟨.bin .shr (.r 4) (.r 13), none⟩,
     ⟨.i2i .u8 (.r 14), none⟩,
     ⟨.mv (.r 15), none⟩] [] [(2, 8), (2, 10), (4, 8), (4, 10)] [(15, 16, none)])
   (.drop [16, 17, 32] []))
   (.seq (.reg [⟨.mv (.s 3), none⟩,
     ⟨.mv (.s 18), none⟩,
     ⟨.iaS 4 (.r 0) (.r 1), none⟩,
     ⟨.off 0 (.r 2), none⟩,
     ⟨.load 0 false 1 (.r 3), none⟩,
     ⟨.mv (.r 4), none⟩] [] [] [(16, 5, none)])
   (.reg [⟨.mv (.c (.bool true)), none⟩] [] [] [(17, 0, none)])))
   (.skip))))
 (.seq (.reg [⟨.mv (.s 18), none⟩,
   ⟨.bin .add (.r 0) (.c (.int .i64 1)), none⟩,
   ⟨.mv (.r 1), none⟩] [] [] [(18, 2, none)])
 (.drop [32] [])))
def ir_undertowlaw13_SbufFindsl3 : C :=
 .seq (.seq (.reg [⟨.mv (.s 11), none⟩,
   ⟨.bin .lss (.r 0) (.c (.int .i64 40)), none⟩] [] [] [(30, 1, none)])
 (.cond (.s 30) (.skip)
  (.exit 7)))
 (.seq (.block 8 (.seq (.seq (.reg [⟨.mv (.s 2), none⟩,
    ⟨.mv (.s 11), none⟩,
    ⟨.call .val n_sbuf_Buffer_Find [(.r 0), (.r 1)], none⟩,
    ⟨.mv (.r 2), none⟩,
    ⟨.ext (.r 3) 0, none⟩,
    ⟨.ext (.r 3) 1, none⟩,
    ⟨.ext (.r 3) 2, none⟩,
    ⟨.mv (.r 4), none⟩,
    ⟨.mv (.r 5), none⟩,
    ⟨.mv (.r 6), none⟩] [] [] [(12, 7, none), (13, 8, none), (14, 9, none)])
  (.drop [30] []))
  (.seq (.reg [⟨.mv (.c (.int .u8 0)), none⟩,
    ⟨.mv (.c (.int .i64 0)), none⟩,
    ⟨.mv (.c (.bool false)), none⟩] [] [] [(15, 0, none), (16, 1, none), (17, 2, none)])
  (.seq (.seq (.reg [⟨.mv (.c (.int .i64 0)), none⟩] [] [] [(18, 0, none)])
  (.block 9 (.loop ir_undertowlaw13_SbufFindsl2)))
  (.seq (.seq (.reg [⟨.mv (.s 12), none⟩,
    ⟨.mv (.s 15), none⟩,
    ⟨.bin .neq (.r 0) (.r 1), none⟩,
    ⟨.mv (.r 2), none⟩,
    ⟨.mv (.s 13), some (3, false)⟩,
    ⟨.mv (.s 16), some (3, false)⟩,
    ⟨.bin .neq (.r 4) (.r 5), some (3, false)⟩,
    ⟨.pick (.r 3) (.c (.bool true)) (.r 6), none⟩,
    ⟨.mv (.r 7), none⟩,
    ⟨.mv (.s 14), some (8, false)⟩,
    ⟨.mv (.s 17), some (8, false)⟩,
    ⟨.eqb true (.r 9) (.r 10), some (8, false)⟩,
    ⟨.pick (.r 8) (.c (.bool true)) (.r 11), none⟩] [] [] [(33, 12, none)])
  (.drop [12, 13, 14, 15, 16, 17, 18, 31] []))
  (.cond (.s 33) (.seq (.seq (.reg [⟨.mv (.c (.bool false)), none⟩] [] [] [(1, 0, none)])
   (.drop [0, 2, 3, 4, 11, 33] []))
   (.ret))
   (.skip)))))))
 (.seq (.reg [⟨.mv (.s 11), none⟩,
   ⟨.bin .add (.r 0) (.c (.int .i64 1)), none⟩,
   ⟨.mv (.r 1), none⟩] [] [] [(11, 2, none)])
 (.drop [33] [])))
def ir_undertowlaw13_SbufFindsl4 : C :=
 .seq (.seq (.reg [⟨.mv (.s 4), none⟩,
   ⟨.mv (.s 0), none⟩,
   ⟨.len 1 (.r 1), none⟩,
   ⟨.bin .lss (.r 0) (.r 2), none⟩,
   ⟨.mv (.r 3), none⟩,
   ⟨.mv (.s 4), some (4, true)⟩,
   ⟨.bin .lss (.r 5) (.c (.int .i64 60)), some (4, true)⟩,
   ⟨.pick (.r 4) (.r 6) (.c (.bool false)), none⟩] [] [] [(20, 7, none)])
 (.cond (.s 20) (.skip)
  (.exit 0)))
 (.seq (.block 1 (.seq (.seq (.reg [⟨.mv (.s 0), none⟩,
    ⟨.mv (.s 4), none⟩,
    ⟨.iaS 5 (.r 0) (.r 1), none⟩,
    ⟨.off 1 (.r 2), none⟩,
    ⟨.load 0 true 4 (.r 3), none⟩,
    ⟨.lalloc 0 [.int .i64 0, .int .i64 0, .int .i64 0, .int .u64 0], none⟩,
    ⟨.store 0 4 (.r 5) (.r 4), none⟩] [(true, 0)] [] [(5, 5, some 1)])
  (.drop [20] []))
  (.seq (.seq (.reg [⟨.mv (.s 0), none⟩,
    ⟨.mv (.s 4), none⟩,
    ⟨.iaS 5 (.r 0) (.r 1), none⟩,
    ⟨.off 0 (.r 2), none⟩,
    ⟨.load 0 false 1 (.r 3), none⟩] [] [] [(21, 4, none)])
  (.block 2 (.seq (.reg [⟨.bin .eql (.s 21) (.c (.int .i64 0)), none⟩,
     ⟨.mv (.r 0), none⟩] [] [] [(22, 1, none)])
   (.cond (.s 22) (.seq (.seq (.reg [⟨.mv (.s 2), none⟩,
      ⟨.load 0 true 4 (.s 5), none⟩,
      ⟨.call .heap n_sbuf_Buffer_Put [(.r 0), (.r 1)], none⟩] [] [] [(23, 2, none)])
    (.drop [21, 22] []))
    (.cond (.s 23) (.seq (.reg [⟨.mv (.s 3), none⟩,
       ⟨.load 0 true 4 (.s 5), none⟩,
       ⟨.lit 1 4 [[.int .i64 0, .int .i64 0, .int .i64 0, .int .u64 0]] [(0, (.r 1))], none⟩,
       ⟨.app 2 4 32 (.r 0) (.r 2), none⟩,
       ⟨.mv (.r 3), none⟩] [] [] [(3, 4, none)])
     (.drop [5, 23] [(true, 0)]))
     (.skip)))
    (.seq (.seq (.reg [⟨.bin .eql (.s 21) (.c (.int .i64 1)), none⟩,
      ⟨.mv (.r 0), none⟩] [] [] [(24, 1, none)])
    (.drop [22] []))
    (.cond (.s 24) (.seq (.reg [⟨.mv (.s 2), none⟩,
       ⟨.call .heap n_sbuf_Buffer_Barrier [(.r 0)], none⟩] [] [] [])
     (.drop [5, 21, 24] [(true, 0)]))
     (.seq (.seq (.reg [⟨.bin .eql (.s 21) (.c (.int .i64 2)), none⟩,
       ⟨.mv (.r 0), none⟩] [] [] [(25, 1, none)])
     (.drop [21, 24] []))
     (.cond (.s 25) (.seq (.seq (.reg [⟨.mv (.s 2), none⟩,
        ⟨.off 1 (.s 5), none⟩,
        ⟨.load 0 false 1 (.r 1), none⟩,
        ⟨.call .heap n_sbuf_Buffer_Drain [(.r 0), (.r 2)], none⟩,
        ⟨.mv (.r 3), none⟩] [] [] [(6, 4, none)])
      (.drop [5, 25] [(true, 0)]))
      (.seq (.reg [⟨.mv (.c (.int .i64 0)), none⟩] [] [] [(7, 0, none)])
      (.block 3 (.loop ir_undertowlaw13_SbufFindsl1))))
      (.skip)))))))))
  (.seq (.seq (.reg [⟨.mv (.c (.int .i64 (-1))), none⟩] [] [] [(11, 0, none)])
  (.drop [5, 6, 7, 23, 25, 26] [(true, 0)]))
  (.block 7 (.loop ir_undertowlaw13_SbufFindsl3))))))
 (.seq (.reg [⟨.mv (.s 4), none⟩,
   ⟨.bin .add (.r 0) (.c (.int .i64 1)), none⟩,
   ⟨.mv (.r 1), none⟩] [] [] [(4, 2, none)])
 (.drop [11, 30] [])))
def ir_undertowlaw13_SbufFinds : Vm.Fn := ⟨[0, 2, 3, 4, 5, 6, 7, 8, 9, 10, 11, 12, 13, 14, 15, 16, 17, 18, 19, 21, 31, 43, 44, 48, 53, 57, 66, 72, 135, 144, 147, 160, 184, 218], 1, 0, [.slot 1],
 .seq (.seq (.reg [⟨.mv (.c (.bool false)), none⟩] [] [] [(1, 0, none)])
 (.drop [1] []))
 (.seq (.seq (.reg [⟨.call .val n_undertowlaw13_alive [], none⟩,
   ⟨.un .not (.r 0), none⟩] [] [] [(19, 1, none)])
 (.cond (.s 19) (.seq (.seq (.reg [⟨.mv (.c (.bool false)), none⟩] [] [] [(1, 0, none)])
  (.drop [0, 19] []))
  (.ret))
  (.skip)))
 (.seq (.seq (.reg [⟨.build [.nils, .int .i64 0] [], none⟩,
   ⟨.hbox 2 (.r 0), none⟩,
   ⟨.mv (.r 1), none⟩] [] [] [(2, 2, none)])
 (.drop [19] []))
 (.seq (.reg [⟨.mv (.c (.nils)), none⟩] [] [] [(3, 0, none)])
 (.seq (.seq (.reg [⟨.mv (.c (.int .i64 0)), none⟩] [] [] [(4, 0, none)])
 (.block 0 (.loop ir_undertowlaw13_SbufFindsl4)))
 (.seq (.seq (.reg [⟨.call .val n_undertowlaw13_alive [], none⟩,
   ⟨.mv (.r 0), none⟩] [] [] [(1, 1, none)])
 (.drop [0, 2, 3, 4, 20] []))
 (.ret))))))⟩
/-- 4: undertow/undertowlaw13.SbufOrder -/
def h4 : Vm.Hint := ⟨[0, 1, 4, 5, 6, 7, 8, 9, 10, 11, 12, 13, 14, 15, 16, 17, 18, 19, 21, 31, 46, 53, 68, 75, 79, 100, 104, 112, 147, 151, 164, 176, 188], [11], [6, 8, 7], [[0], [0, 0], [0], [0, 0, 0], [1, 3], [2], [0], [0], [0, 0, 0, 0, 0, 0, 0, 0], [0, 0, 0], [0, 0, 0, 0, 0, 1, 0], [0, 0, 0], [0, 0, 0, 0, 0, 0], [0, 1], [0, 0, 0], [0, 0, 1], [0, 0, 1, 2, 0], [0, 0, 1, 2, 0], [0], [0, 0, 0, 0, 0, 0, 0], [0, 0, 0], [0, 0, 0], [0, 0, 0], [0], [0], [0, 0, 0, 0], [0, 0, 0, 0, 0, 0, 0, 0, 0], [0, 0, 0, 0, 0, 0, 1, 2, 0], [0, 0, 0, 0, 0], [0], [0], [0, 0, 0, 0], [0, 0, 0], [0, 0, 0], [0, 0, 0, 0], [0, 0, 0], [0, 0, 0, 0, 0, 0, 0, 0, 0, 0, 0, 0, 0, 0, 0, 0, 0, 0, 0, 0, 0, 0, 0, 0, 0, 0, 0, 0, 0, 0, 0, 0, 0], [0, 0], [0], [0, 0, 0, 0], [0, 0, 0], [0, 0, 0, 0, 0, 0, 0, 0, 0, 0, 0], [0, 0], [0, 0, 0, 0, 0, 0, 0, 0, 0, 0, 0], [0, 0], [0, 0, 0, 0, 0, 0, 0, 0, 0, 0, 0], [0], [0, 0]], [([2], []), ([], []), ([0, 1, 18], []), ([18], []), ([], []), ([], []), ([], []), ([], []), ([], []), ([9, 21], [(true, 0)]), ([19], []), ([], []), ([], []), ([9, 20], [(true, 0)]), ([], []), ([20], []), ([9, 21], [(true, 0)]), ([], []), ([0, 7, 8, 19], []), ([], []), ([], []), ([22], []), ([], []), ([1, 3, 4, 5, 6, 10, 11, 23], [(false, 0), (false, 2), (false, 1)]), ([23], []), ([], []), ([24], []), ([11, 12, 24], []), ([1, 3, 10, 22], []), ([4, 5, 6, 25], [(false, 0), (false, 2), (false, 1)]), ([25], []), ([], []), ([14, 27], []), ([26], []), ([], []), ([28, 32], []), ([27], []), ([28], []), ([], []), ([], []), ([31], []), ([29], []), ([30], []), ([30], []), ([31], []), ([15, 16, 17, 29], []), ([4, 5, 6, 13, 14, 32], [(false, 0), (false, 2), (false, 1)]), ([4, 5, 6, 13, 26], [(false, 0), (false, 2), (false, 1)])], []⟩
def ir_undertowlaw13_SbufOrderl0 : C :=
 .seq (.seq (.reg [⟨.mv (.s 8), none⟩,
   ⟨.mv (.s 0), none⟩,
   ⟨.len 1 (.r 1), none⟩,
   ⟨.bin .lss (.r 0) (.r 2), none⟩,
   ⟨.mv (.r 3), none⟩,
   ⟨.mv (.s 8), some (4, true)⟩,
   ⟨.bin .lss (.r 5) (.c (.int .i64 60)), some (4, true)⟩,
   ⟨.pick (.r 4) (.r 6) (.c (.bool false)), none⟩] [] [] [(19, 7, none)])
 (.cond (.s 19) (.skip)
  (.exit 0)))
 (.seq (.block 1 (.seq (.seq (.reg [⟨.mv (.s 0), none⟩,
    ⟨.mv (.s 8), none⟩,
    ⟨.iaS 5 (.r 0) (.r 1), none⟩,
    ⟨.off 1 (.r 2), none⟩,
    ⟨.load 0 true 4 (.r 3), none⟩,
    ⟨.lalloc 0 [.int .i64 0, .int .i64 0, .int .i64 0, .int .u64 0], none⟩,
    ⟨.store 0 4 (.r 5) (.r 4), none⟩] [(true, 0)] [] [(9, 5, some 1)])
  (.drop [19] []))
  (.seq (.reg [⟨.mv (.s 8), none⟩,
    ⟨.off 0 (.s 9), none⟩,
    ⟨.store 0 1 (.r 1) (.r 0), none⟩] [] [] [])
  (.seq (.reg [⟨.mv (.s 0), none⟩,
    ⟨.mv (.s 8), none⟩,
    ⟨.iaS 5 (.r 0) (.r 1), none⟩,
    ⟨.off 0 (.r 2), none⟩,
    ⟨.load 0 false 1 (.r 3), none⟩,
    ⟨.bin .eql (.r 4) (.c (.int .i64 1)), none⟩] [] [] [(20, 5, none)])
  (.cond (.s 20) (.seq (.seq (.reg [⟨.mv (.s 3), none⟩,
     ⟨.call .heap n_sbuf_Buffer_Barrier [(.r 0)], none⟩] [] [] [])
   (.drop [9, 20] [(true, 0)]))
   (.reg [⟨.mv (.s 7), none⟩,
     ⟨.bin .add (.r 0) (.c (.int .i64 1)), none⟩,
     ⟨.mv (.r 1), none⟩] [] [] [(7, 2, none)]))
   (.seq (.seq (.reg [⟨.mv (.s 3), none⟩,
     ⟨.load 0 true 4 (.s 9), none⟩,
     ⟨.call .heap n_sbuf_Buffer_Put [(.r 0), (.r 1)], none⟩] [] [] [(21, 2, none)])
   (.drop [20] []))
   (.cond (.s 21) (.seq (.seq (.reg [⟨.mv (.s 4), none⟩,
      ⟨.load 0 true 4 (.s 9), none⟩,
      ⟨.lit 1 4 [[.int .i64 0, .int .i64 0, .int .i64 0, .int .u64 0]] [(0, (.r 1))], none⟩,
      ⟨.app 2 4 32 (.r 0) (.r 2), none⟩,
      ⟨.mv (.r 3), none⟩] [] [] [(4, 4, some 0)])
    (.drop [9, 21] [(true, 0)]))
    (.reg [⟨.mv (.s 6), none⟩,
      ⟨.mv (.s 7), none⟩,
      ⟨.lit 1 1 [[.int .i64 0]] [(0, (.r 1))], none⟩,
      ⟨.app 2 1 8 (.r 0) (.r 2), none⟩,
      ⟨.mv (.r 3), none⟩] [] [] [(6, 4, some 2)]))
    (.skip))))))))
 (.seq (.reg [⟨.mv (.s 8), none⟩,
   ⟨.bin .add (.r 0) (.c (.int .i64 1)), none⟩,
   ⟨.mv (.r 1), none⟩] [] [] [(8, 2, none)])
 (.drop [9, 21] [(true, 0)])))
def ir_undertowlaw13_SbufOrderl1 : C :=
 .seq (.seq (.reg [⟨.mv (.s 10), none⟩,
   ⟨.bin .lss (.r 0) (.c (.int .i64 60)), none⟩,
   ⟨.mv (.r 1), none⟩,
   ⟨.mv (.s 3), some (2, true)⟩,
   ⟨.call .val n_sbuf_Buffer_Empty [(.r 3)], some (2, true)⟩,
   ⟨.un .not (.r 4), some (2, true)⟩,
   ⟨.pick (.r 2) (.r 5) (.c (.bool false)), none⟩] [] [] [(22, 6, none)])
 (.cond (.s 22) (.skip)
  (.exit 2)))
 (.seq (.block 3 (.seq (.seq (.reg [⟨.mv (.s 3), none⟩,
    ⟨.call .val n_sbuf_Buffer_Ready [(.r 0)], none⟩,
    ⟨.mv (.r 1), none⟩] [] [] [(11, 2, none)])
  (.drop [22] []))
  (.seq (.seq (.reg [⟨.mv (.s 11), none⟩,
    ⟨.len 1 (.r 0), none⟩,
    ⟨.bin .eql (.r 1) (.c (.int .i64 0)), none⟩] [] [] [(23, 2, none)])
  (.cond (.s 23) (.seq (.seq (.reg [⟨.mv (.c (.bool false)), none⟩] [] [] [(2, 0, none)])
   (.drop [1, 3, 4, 5, 6, 10, 11, 23] [(false, 0), (false, 2), (false, 1)]))
   (.ret))
   (.skip)))
  (.seq (.seq (.reg [⟨.mv (.c (.int .i64 0)), none⟩] [] [] [(12, 0, none)])
  (.drop [23] []))
  (.seq (.seq (.reg [⟨.mv (.s 10), none⟩,
    ⟨.mv (.s 1), none⟩,
    ⟨.len 1 (.r 1), none⟩,
    ⟨.bin .lss (.r 0) (.r 2), none⟩] [] [] [(24, 3, none)])
  (.cond (.s 24) (.seq (.reg [⟨.mv (.s 1), none⟩,
     ⟨.mv (.s 10), none⟩,
     ⟨.iaS 1 (.r 0) (.r 1), none⟩,
     ⟨.load 0 false 1 (.r 2), none⟩,
     ⟨.i2i .i64 (.r 3), none⟩,
     ⟨.mv (.s 11), none⟩,
     ⟨.len 1 (.r 5), none⟩,
     ⟨.bin .rem (.r 4) (.r 6), none⟩,
     ⟨.mv (.r 7), none⟩] [] [] [(12, 8, none)])
   (.drop [24] []))
   (.skip)))
  (.seq (.reg [⟨.mv (.s 5), none⟩,
    ⟨.mv (.s 3), none⟩,
    ⟨.mv (.s 11), none⟩,
    ⟨.mv (.s 12), none⟩,
    ⟨.iaS 1 (.r 2) (.r 3), none⟩,
    ⟨.load 0 false 1 (.r 4), none⟩,
    ⟨.call .heap n_sbuf_Buffer_Drain [(.r 1), (.r 5)], none⟩,
    ⟨.app 2 4 32 (.r 0) (.r 6), none⟩,
    ⟨.mv (.r 7), none⟩] [] [] [(5, 8, some 4)])
  (.drop [11, 12, 24] [])))))))
 (.reg [⟨.mv (.s 10), none⟩,
   ⟨.bin .add (.r 0) (.c (.int .i64 1)), none⟩,
   ⟨.mv (.r 1), none⟩] [] [] [(10, 2, none)]))
def ir_undertowlaw13_SbufOrderl2 : C :=
 .seq (.seq (.reg [⟨.mv (.s 17), none⟩,
   ⟨.mv (.s 5), none⟩,
   ⟨.len 1 (.r 1), none⟩,
   ⟨.bin .lss (.r 0) (.r 2), none⟩] [] [] [(29, 3, none)])
 (.cond (.s 29) (.skip)
  (.exit 8)))
 (.seq (.block 9 (.seq (.seq (.seq (.reg [⟨.mv (.s 5), none⟩,
    ⟨.mv (.s 17), none⟩,
    ⟨.iaS 4 (.r 0) (.r 1), none⟩,
    ⟨.off 0 (.r 2), none⟩,
    ⟨.load 0 false 1 (.r 3), none⟩,
    ⟨.mv (.s 4), none⟩,
    ⟨.mv (.s 13), none⟩,
    ⟨.iaS 4 (.r 5) (.r 6), none⟩,
    ⟨.off 0 (.r 7), none⟩,
    ⟨.load 0 false 1 (.r 8), none⟩,
    ⟨.bin .eql (.r 4) (.r 9), none⟩] [] [(2, 7), (2, 9), (4, 7), (4, 9)] [(30, 10, none)])
  (.drop [29] []))
  (.cond (.s 30) (.seq (.reg [⟨.mv (.s 17), none⟩,
     ⟨.mv (.r 0), none⟩] [] [] [(15, 1, none)])
   (.drop [30] []))
   (.skip)))
  (.seq (.seq (.reg [⟨.mv (.s 5), none⟩,
    ⟨.mv (.s 17), none⟩,
    ⟨.iaS 4 (.r 0) (.r 1), none⟩,
    ⟨.off 0 (.r 2), none⟩,
    ⟨.load 0 false 1 (.r 3), none⟩,
    ⟨.mv (.s 4), none⟩,
    ⟨.mv (.s 14), none⟩,
    ⟨.iaS 4 (.r 5) (.r 6), none⟩,
    ⟨.off 0 (.r 7), none⟩,
    ⟨.load 0 false 1 (.r 8), none⟩,
    ⟨.bin .eql (.r 4) (.r 9), none⟩] [] [(2, 7), (2, 9), (4, 7), (4, 9)] [(31, 10, none)])
  (.drop [30] []))
  (.cond (.s 31) (.seq (.reg [⟨.mv (.s 17), none⟩,
     ⟨.mv (.r 0), none⟩] [] [] [(16, 1, none)])
   (.drop [31] []))
   (.skip)))))
 (.seq (.reg [⟨.mv (.s 17), none⟩,
   ⟨.bin .add (.r 0) (.c (.int .i64 1)), none⟩,
   ⟨.mv (.r 1), none⟩] [] [] [(17, 2, none)])
 (.drop [31] [])))
def ir_undertowlaw13_SbufOrderl3 : C :=
 .seq (.seq (.reg [⟨.mv (.s 14), none⟩,
   ⟨.mv (.s 4), none⟩,
   ⟨.len 1 (.r 1), none⟩,
   ⟨.bin .lss (.r 0) (.r 2), none⟩] [] [] [(27, 3, none)])
 (.cond (.s 27) (.skip)
  (.exit 6)))
 (.seq (.block 7 (.seq (.seq (.seq (.reg [⟨.mv (.s 4), none⟩,
    ⟨.mv (.s 13), none⟩,
    ⟨.iaS 4 (.r 0) (.r 1), none⟩,
    ⟨.off 1 (.r 2), none⟩,
    ⟨.load 0 false 1 (.r 3), none⟩,
    ⟨.mv (.s 4), none⟩,
    ⟨.mv (.s 13), none⟩,
    ⟨.iaS 4 (.r 5) (.r 6), none⟩,
    ⟨.off 2 (.r 7), none⟩,
    ⟨.load 0 false 1 (.r 8), none⟩,
    ⟨.mv (.s 4), none⟩,
    ⟨.mv (.s 14), none⟩,
    ⟨.iaS 4 (.r 10) (.r 11), none⟩,
    ⟨.off 1 (.r 12), none⟩,
    ⟨.load 0 false 1 (.r 13), none⟩,
    ⟨.mv (.s 4), none⟩,
    ⟨.mv (.s 14), none⟩,
    ⟨.iaS 4 (.r 15) (.r 16), none⟩,
    ⟨.off 2 (.r 17), none⟩,
    ⟨.load 0 false 1 (.r 18), none⟩,
    ⟨.call .val n_undertowref01_Overlap [(.r 4), (.r 9), (.r 14), (.r 19)], none⟩,
    ⟨.un .not (.r 20), none⟩,
    ⟨.mv (.r 21), none⟩,
    ⟨.mv (.s 6), some (22, true)⟩,
    ⟨.mv (.s 13), some (22, true)⟩,
    ⟨.iaS 1 (.r 23) (.r 24), some (22, true)⟩,
    ⟨.load 0 false 1 (.r 25), some (22, true)⟩,
    ⟨.mv (.s 6), some (22, true)⟩,
    ⟨.mv (.s 14), some (22, true)⟩,
    ⟨.iaS 1 (.r 27) (.r 28), some (22, true)⟩,
    ⟨.load 0 false 1 (.r 29), some (22, true)⟩,
    ⟨.bin .eql (.r 26) (.r 30), some (22, true)⟩,
    ⟨.pick (.r 22) (.r 31) (.c (.bool false)), none⟩] [] [(2, 7), (2, 9), (2, 12), (2, 14), (2, 17), (2, 19), (4, 7), (4, 9), (4, 12), (4, 14), (4, 17), (4, 19), (7, 12), (7, 14), (7, 17), (7, 19), (9, 12), (9, 14), (9, 17), (9, 19), (12, 17), (12, 19), (14, 17), (14, 19), (25, 29), (25, 30), (26, 29), (26, 30)] [(28, 32, none)])
  (.drop [27] []))
  (.cond (.s 28) (.exit 7)
   (.skip)))
  (.seq (.seq (.reg [⟨.mv (.c (.int .i64 (-1))), none⟩,
    ⟨.mv (.c (.int .i64 (-1))), none⟩] [] [] [(15, 0, none), (16, 1, none)])
  (.drop [28] []))
  (.seq (.seq (.reg [⟨.mv (.c (.int .i64 0)), none⟩] [] [] [(17, 0, none)])
  (.block 8 (.loop ir_undertowlaw13_SbufOrderl2)))
  (.seq (.seq (.reg [⟨.mv (.s 15), none⟩,
    ⟨.bin .lss (.r 0) (.c (.int .i64 0)), none⟩,
    ⟨.mv (.r 1), none⟩,
    ⟨.mv (.s 16), some (2, false)⟩,
    ⟨.bin .lss (.r 3) (.c (.int .i64 0)), some (2, false)⟩,
    ⟨.pick (.r 2) (.c (.bool true)) (.r 4), none⟩,
    ⟨.mv (.r 5), none⟩,
    ⟨.mv (.s 15), some (6, false)⟩,
    ⟨.mv (.s 16), some (6, false)⟩,
    ⟨.bin .gtr (.r 7) (.r 8), some (6, false)⟩,
    ⟨.pick (.r 6) (.c (.bool true)) (.r 9), none⟩] [] [] [(32, 10, none)])
  (.drop [15, 16, 17, 29] []))
  (.cond (.s 32) (.seq (.seq (.reg [⟨.mv (.c (.bool false)), none⟩] [] [] [(2, 0, none)])
   (.drop [4, 5, 6, 13, 14, 32] [(false, 0), (false, 2), (false, 1)]))
   (.ret))
   (.skip)))))))
 (.seq (.reg [⟨.mv (.s 14), none⟩,
   ⟨.bin .add (.r 0) (.c (.int .i64 1)), none⟩,
   ⟨.mv (.r 1), none⟩] [] [] [(14, 2, none)])
 (.drop [28, 32] [])))
def ir_undertowlaw13_SbufOrderl4 : C :=
 .seq (.seq (.reg [⟨.mv (.s 13), none⟩,
   ⟨.mv (.s 4), none⟩,
   ⟨.len 1 (.r 1), none⟩,
   ⟨.bin .lss (.r 0) (.r 2), none⟩] [] [] [(26, 3, none)])
 (.cond (.s 26) (.skip)
  (.exit 4)))
 (.seq (.block 5 (.seq (.seq (.reg [⟨.mv (.s 13), none⟩,
    ⟨.bin .add (.r 0) (.c (.int .i64 1)), none⟩,
    ⟨.mv (.r 1), none⟩] [] [] [(14, 2, none)])
  (.drop [26] []))
  (.block 6 (.loop ir_undertowlaw13_SbufOrderl3))))
 (.seq (.reg [⟨.mv (.s 13), none⟩,
   ⟨.bin .add (.r 0) (.c (.int .i64 1)), none⟩,
   ⟨.mv (.r 1), none⟩] [] [] [(13, 2, none)])
 (.drop [14, 27] [])))
def ir_undertowlaw13_SbufOrder : Vm.Fn := ⟨[0, 1, 4, 5, 6, 7, 8, 9, 10, 11, 12, 13, 14, 15, 16, 17, 18, 19, 21, 31, 46, 53, 68, 75, 79, 100, 104, 112, 147, 151, 164, 176, 188], 1, 3, [.slot 2],
 .seq (.seq (.reg [⟨.mv (.c (.bool false)), none⟩] [] [] [(2, 0, none)])
 (.drop [2] []))
 (.seq (.seq (.reg [⟨.call .val n_undertowlaw13_alive [], none⟩,
   ⟨.un .not (.r 0), none⟩] [] [] [(18, 1, none)])
 (.cond (.s 18) (.seq (.seq (.reg [⟨.mv (.c (.bool false)), none⟩] [] [] [(2, 0, none)])
  (.drop [0, 1, 18] []))
  (.ret))
  (.skip)))
 (.seq (.seq (.reg [⟨.build [.nils, .int .i64 0] [], none⟩,
   ⟨.hbox 2 (.r 0), none⟩,
   ⟨.mv (.r 1), none⟩] [] [] [(3, 2, none)])
 (.drop [18] []))
 (.seq (.reg [⟨.onil 0, none⟩,
   ⟨.onil 2, none⟩] [(false, 0), (false, 2)] [] [(4, 0, some 0), (5, 1, some 4)])
 (.seq (.reg [⟨.onil 1, none⟩] [(false, 1)] [] [(6, 0, some 2)])
 (.seq (.reg [⟨.mv (.c (.int .i64 0)), none⟩] [] [] [(7, 0, none)])
 (.seq (.seq (.reg [⟨.mv (.c (.int .i64 0)), none⟩] [] [] [(8, 0, none)])
 (.block 0 (.loop ir_undertowlaw13_SbufOrderl0)))
 (.seq (.seq (.seq (.reg [⟨.mv (.c (.int .i64 0)), none⟩] [] [] [(10, 0, none)])
 (.drop [0, 7, 8, 19] []))
 (.block 2 (.loop ir_undertowlaw13_SbufOrderl1)))
 (.seq (.seq (.seq (.reg [⟨.mv (.s 5), none⟩,
   ⟨.len 1 (.r 0), none⟩,
   ⟨.mv (.s 4), none⟩,
   ⟨.len 1 (.r 2), none⟩,
   ⟨.bin .neq (.r 1) (.r 3), none⟩] [] [] [(25, 4, none)])
 (.drop [1, 3, 10, 22] []))
 (.cond (.s 25) (.seq (.seq (.reg [⟨.mv (.c (.bool false)), none⟩] [] [] [(2, 0, none)])
  (.drop [4, 5, 6, 25] [(false, 0), (false, 2), (false, 1)]))
  (.ret))
  (.skip)))
 (.seq (.seq (.seq (.reg [⟨.mv (.c (.int .i64 0)), none⟩] [] [] [(13, 0, none)])
 (.drop [25] []))
 (.block 4 (.loop ir_undertowlaw13_SbufOrderl4)))
 (.seq (.seq (.reg [⟨.call .val n_undertowlaw13_alive [], none⟩,
   ⟨.mv (.r 0), none⟩] [] [] [(2, 1, none)])
 (.drop [4, 5, 6, 13, 26] [(false, 0), (false, 2), (false, 1)]))
 (.ret)))))))))))⟩
/-- 5: undertow/undertowlaw13.SbufSame -/
def h5 : Vm.Hint := ⟨[0, 1, 4, 5, 6, 7, 8, 9, 10, 11, 12, 13, 14, 15, 16, 18, 30, 43, 48, 52, 74, 81, 85, 103, 112], [9], [], [[0], [0, 0], [0], [0, 0, 0], [0, 0, 0, 0], [0], [0, 0, 0, 0, 0, 0, 0, 0], [0, 0, 0], [0, 0, 0, 0, 0, 1, 0], [0, 0, 0, 0, 0, 0], [0, 1], [0, 0, 1], [0], [0, 0, 0, 0], [0, 0, 0], [0, 0, 0, 0, 0, 0, 0, 0, 0, 0, 0, 0, 0, 0], [0], [0, 0, 0, 0, 0, 0, 0], [0, 0, 0], [0, 0, 0], [0, 0, 0], [0], [0], [0, 0, 0, 0], [0, 0, 0, 0, 0, 0, 0, 0, 0], [0, 0, 0, 0, 0, 1, 0], [0], [0, 0, 0, 0], [0, 0, 0], [0], [0, 0, 0, 0, 0, 0, 0], [0, 0, 0], [0, 0, 0, 0, 0, 0, 0, 0, 0, 0, 0, 0, 0, 0, 0, 0, 0, 0, 0, 0], [0, 0, 0, 0, 0, 0, 0, 0]], [([2], []), ([], []), ([0, 1, 15], []), ([15], []), ([], []), ([], []), ([], []), ([7, 8, 18, 19], [(true, 0)]), ([16], []), ([], []), ([7, 17], [(true, 0)]), ([17], []), ([18], []), ([], []), ([], []), ([19], []), ([0, 6, 16], []), ([], []), ([12, 13, 23], []), ([20], []), ([], []), ([1, 3, 4, 5, 9, 10, 21], []), ([21], []), ([], []), ([22], []), ([10, 11, 22], []), ([], []), ([], []), ([14, 24], []), ([23], []), ([], []), ([], []), ([24], []), ([1, 3, 4, 5, 9, 20], [])], []⟩
def ir_undertowlaw13_SbufSamel0 : C :=
 .seq (.seq (.reg [⟨.mv (.s 8), none⟩,
   ⟨.off 2 (.s 7), none⟩,
   ⟨.load 0 false 1 (.r 1), none⟩,
   ⟨.bin .lss (.r 0) (.r 2), none⟩] [] [] [(19, 3, none)])
 (.cond (.s 19) (.skip)
  (.exit 2)))
 (.seq (.block 3 (.seq (.reg [⟨.mv (.s 4), none⟩,
    ⟨.off 1 (.s 7), none⟩,
    ⟨.load 0 false 1 (.r 1), none⟩,
    ⟨.mv (.s 8), none⟩,
    ⟨.bin .add (.r 2) (.r 3), none⟩,
    ⟨.off 3 (.s 7), none⟩,
    ⟨.load 0 false 1 (.r 5), none⟩,
    ⟨.mv (.s 8), none⟩,
    ⟨.bin .mul (.c (.int .i64 8)) (.r 7), none⟩,
    ⟨.i2i .u64 (.r 8), none⟩,
    ⟨.bin .shr (.r 6) (.r 9), none⟩,
    ⟨.i2i .u8 (.r 10), none⟩,
    ⟨.iaS 1 (.r 0) (.r 4), none⟩,
    ⟨.store 0 1 (.r 12) (.r 11), none⟩] [] [] [])
  (.drop [19] [])))
 (.reg [⟨.mv (.s 8), none⟩,
   ⟨.bin .add (.r 0) (.c (.int .i64 1)), none⟩,
   ⟨.mv (.r 1), none⟩] [] [] [(8, 2, none)]))
def ir_undertowlaw13_SbufSamel1 : C :=
 .seq (.seq (.reg [⟨.mv (.s 6), none⟩,
   ⟨.mv (.s 0), none⟩,
   ⟨.len 1 (.r 1), none⟩,
   ⟨.bin .lss (.r 0) (.r 2), none⟩,
   ⟨.mv (.r 3), none⟩,
   ⟨.mv (.s 6), some (4, true)⟩,
   ⟨.bin .lss (.r 5) (.c (.int .i64 60)), some (4, true)⟩,
   ⟨.pick (.r 4) (.r 6) (.c (.bool false)), none⟩] [] [] [(16, 7, none)])
 (.cond (.s 16) (.skip)
  (.exit 0)))
 (.seq (.block 1 (.seq (.seq (.reg [⟨.mv (.s 0), none⟩,
    ⟨.mv (.s 6), none⟩,
    ⟨.iaS 5 (.r 0) (.r 1), none⟩,
    ⟨.off 1 (.r 2), none⟩,
    ⟨.load 0 true 4 (.r 3), none⟩,
    ⟨.lalloc 0 [.int .i64 0, .int .i64 0, .int .i64 0, .int .u64 0], none⟩,
    ⟨.store 0 4 (.r 5) (.r 4), none⟩] [(true, 0)] [] [(7, 5, some 1)])
  (.drop [16] []))
  (.seq (.reg [⟨.mv (.s 0), none⟩,
    ⟨.mv (.s 6), none⟩,
    ⟨.iaS 5 (.r 0) (.r 1), none⟩,
    ⟨.off 0 (.r 2), none⟩,
    ⟨.load 0 false 1 (.r 3), none⟩,
    ⟨.bin .eql (.r 4) (.c (.int .i64 1)), none⟩] [] [] [(17, 5, none)])
  (.cond (.s 17) (.seq (.reg [⟨.mv (.s 3), none⟩,
     ⟨.call .heap n_sbuf_Buffer_Barrier [(.r 0)], none⟩] [] [] [])
   (.drop [7, 17] [(true, 0)]))
   (.seq (.seq (.reg [⟨.mv (.s 3), none⟩,
     ⟨.load 0 true 4 (.s 7), none⟩,
     ⟨.call .heap n_sbuf_Buffer_Put [(.r 0), (.r 1)], none⟩] [] [] [(18, 2, none)])
   (.drop [17] []))
   (.cond (.s 18) (.seq (.seq (.reg [⟨.mv (.c (.int .i64 0)), none⟩] [] [] [(8, 0, none)])
    (.drop [18] []))
    (.block 2 (.loop ir_undertowlaw13_SbufSamel0)))
    (.skip)))))))
 (.seq (.reg [⟨.mv (.s 6), none⟩,
   ⟨.bin .add (.r 0) (.c (.int .i64 1)), none⟩,
   ⟨.mv (.r 1), none⟩] [] [] [(6, 2, none)])
 (.drop [7, 8, 18, 19] [(true, 0)])))
def ir_undertowlaw13_SbufSamel2 : C :=
 .seq (.seq (.reg [⟨.mv (.s 14), none⟩,
   ⟨.mv (.s 12), none⟩,
   ⟨.mv (.s 13), none⟩,
   ⟨.iaS 4 (.r 1) (.r 2), none⟩,
   ⟨.off 2 (.r 3), none⟩,
   ⟨.load 0 false 1 (.r 4), none⟩,
   ⟨.bin .lss (.r 0) (.r 5), none⟩] [] [] [(24, 6, none)])
 (.cond (.s 24) (.skip)
  (.exit 8)))
 (.seq (.block 9 (.seq (.reg [⟨.mv (.s 5), none⟩,
    ⟨.mv (.s 12), none⟩,
    ⟨.mv (.s 13), none⟩,
    ⟨.iaS 4 (.r 1) (.r 2), none⟩,
    ⟨.off 1 (.r 3), none⟩,
    ⟨.load 0 false 1 (.r 4), none⟩,
    ⟨.mv (.s 14), none⟩,
    ⟨.bin .add (.r 5) (.r 6), none⟩,
    ⟨.mv (.s 12), none⟩,
    ⟨.mv (.s 13), none⟩,
    ⟨.iaS 4 (.r 8) (.r 9), none⟩,
    ⟨.off 3 (.r 10), none⟩,
    ⟨.load 0 false 1 (.r 11), none⟩,
    ⟨.mv (.s 14), none⟩,
    ⟨.bin .mul (.c (.int .i64 8)) (.r 13), none⟩,
    ⟨.i2i .u64 (.r 14), none⟩,
    ⟨.bin .shr (.r 12) (.r 15), none⟩,
    ⟨.i2i .u8 (.r 16), none⟩,
    ⟨.iaS 1 (.r 0) (.r 7), none⟩,
    ⟨.store 0 1 (.r 18) (.r 17), none⟩] [] [(3, 10), (3, 12), (5, 10), (5, 12)] [])
  (.drop [24] [])))
 (.reg [⟨.mv (.s 14), none⟩,
   ⟨.bin .add (.r 0) (.c (.int .i64 1)), none⟩,
   ⟨.mv (.r 1), none⟩] [] [] [(14, 2, none)]))
def ir_undertowlaw13_SbufSamel3 : C :=
 .seq (.seq (.reg [⟨.mv (.s 13), none⟩,
   ⟨.mv (.s 12), none⟩,
   ⟨.len 1 (.r 1), none⟩,
   ⟨.bin .lss (.r 0) (.r 2), none⟩] [] [] [(23, 3, none)])
 (.cond (.s 23) (.skip)
  (.exit 6)))
 (.seq (.block 7 (.seq (.seq (.reg [⟨.mv (.c (.int .i64 0)), none⟩] [] [] [(14, 0, none)])
  (.drop [23] []))
  (.block 8 (.loop ir_undertowlaw13_SbufSamel2))))
 (.seq (.reg [⟨.mv (.s 13), none⟩,
   ⟨.bin .add (.r 0) (.c (.int .i64 1)), none⟩,
   ⟨.mv (.r 1), none⟩] [] [] [(13, 2, none)])
 (.drop [14, 24] [])))
def ir_undertowlaw13_SbufSamel4 : C :=
 .seq (.seq (.reg [⟨.mv (.s 9), none⟩,
   ⟨.bin .lss (.r 0) (.c (.int .i64 60)), none⟩,
   ⟨.mv (.r 1), none⟩,
   ⟨.mv (.s 3), some (2, true)⟩,
   ⟨.call .val n_sbuf_Buffer_Empty [(.r 3)], some (2, true)⟩,
   ⟨.un .not (.r 4), some (2, true)⟩,
   ⟨.pick (.r 2) (.r 5) (.c (.bool false)), none⟩] [] [] [(20, 6, none)])
 (.cond (.s 20) (.skip)
  (.exit 4)))
 (.seq (.block 5 (.seq (.seq (.reg [⟨.mv (.s 3), none⟩,
    ⟨.call .val n_sbuf_Buffer_Ready [(.r 0)], none⟩,
    ⟨.mv (.r 1), none⟩] [] [] [(10, 2, none)])
  (.drop [20] []))
  (.seq (.seq (.reg [⟨.mv (.s 10), none⟩,
    ⟨.len 1 (.r 0), none⟩,
    ⟨.bin .eql (.r 1) (.c (.int .i64 0)), none⟩] [] [] [(21, 2, none)])
  (.cond (.s 21) (.seq (.seq (.reg [⟨.mv (.c (.bool false)), none⟩] [] [] [(2, 0, none)])
   (.drop [1, 3, 4, 5, 9, 10, 21] []))
   (.ret))
   (.skip)))
  (.seq (.seq (.reg [⟨.mv (.c (.int .i64 0)), none⟩] [] [] [(11, 0, none)])
  (.drop [21] []))
  (.seq (.seq (.reg [⟨.mv (.s 9), none⟩,
    ⟨.mv (.s 1), none⟩,
    ⟨.len 1 (.r 1), none⟩,
    ⟨.bin .lss (.r 0) (.r 2), none⟩] [] [] [(22, 3, none)])
  (.cond (.s 22) (.seq (.reg [⟨.mv (.s 1), none⟩,
     ⟨.mv (.s 9), none⟩,
     ⟨.iaS 1 (.r 0) (.r 1), none⟩,
     ⟨.load 0 false 1 (.r 2), none⟩,
     ⟨.i2i .i64 (.r 3), none⟩,
     ⟨.mv (.s 10), none⟩,
     ⟨.len 1 (.r 5), none⟩,
     ⟨.bin .rem (.r 4) (.r 6), none⟩,
     ⟨.mv (.r 7), none⟩] [] [] [(11, 8, none)])
   (.drop [22] []))
   (.skip)))
  (.seq (.seq (.reg [⟨.mv (.s 3), none⟩,
    ⟨.mv (.s 10), none⟩,
    ⟨.mv (.s 11), none⟩,
    ⟨.iaS 1 (.r 1) (.r 2), none⟩,
    ⟨.load 0 false 1 (.r 3), none⟩,
    ⟨.call .heap n_sbuf_Buffer_Drain [(.r 0), (.r 4)], none⟩,
    ⟨.mv (.r 5), none⟩] [] [] [(12, 6, none)])
  (.drop [10, 11, 22] []))
  (.seq (.reg [⟨.mv (.c (.int .i64 0)), none⟩] [] [] [(13, 0, none)])
  (.block 6 (.loop ir_undertowlaw13_SbufSamel3)))))))))
 (.seq (.reg [⟨.mv (.s 9), none⟩,
   ⟨.bin .add (.r 0) (.c (.int .i64 1)), none⟩,
   ⟨.mv (.r 1), none⟩] [] [] [(9, 2, none)])
 (.drop [12, 13, 23] [])))
def ir_undertowlaw13_SbufSame : Vm.Fn := ⟨[0, 1, 4, 5, 6, 7, 8, 9, 10, 11, 12, 13, 14, 15, 16, 18, 30, 43, 48, 52, 74, 81, 85, 103, 112], 1, 0, [.slot 2],
 .seq (.seq (.reg [⟨.mv (.c (.bool false)), none⟩] [] [] [(2, 0, none)])
 (.drop [2] []))
 (.seq (.seq (.reg [⟨.call .val n_undertowlaw13_alive [], none⟩,
   ⟨.un .not (.r 0), none⟩] [] [] [(15, 1, none)])
 (.cond (.s 15) (.seq (.seq (.reg [⟨.mv (.c (.bool false)), none⟩] [] [] [(2, 0, none)])
  (.drop [0, 1, 15] []))
  (.ret))
  (.skip)))
 (.seq (.seq (.reg [⟨.build [.nils, .int .i64 0] [], none⟩,
   ⟨.hbox 2 (.r 0), none⟩,
   ⟨.mv (.r 1), none⟩] [] [] [(3, 2, none)])
 (.drop [15] []))
 (.seq (.reg [⟨.mksl [.int .u8 0] 1 (.c (.int .i64 1040)) (.c (.int .i64 1040)), none⟩,
   ⟨.mksl [.int .u8 0] 1 (.c (.int .i64 1040)) (.c (.int .i64 1040)), none⟩,
   ⟨.mv (.r 0), none⟩,
   ⟨.mv (.r 1), none⟩] [] [] [(4, 2, none), (5, 3, none)])
 (.seq (.seq (.reg [⟨.mv (.c (.int .i64 0)), none⟩] [] [] [(6, 0, none)])
 (.block 0 (.loop ir_undertowlaw13_SbufSamel1)))
 (.seq (.seq (.seq (.reg [⟨.mv (.c (.int .i64 0)), none⟩] [] [] [(9, 0, none)])
 (.drop [0, 6, 16] []))
 (.block 4 (.loop ir_undertowlaw13_SbufSamel4)))
 (.seq (.seq (.reg [⟨.mv (.s 3), none⟩,
   ⟨.call .val n_sbuf_Buffer_Empty [(.r 0)], none⟩,
   ⟨.mv (.r 1), none⟩,
   ⟨.mv (.s 4), some (2, true)⟩,
   ⟨.mv (.s 5), some (2, true)⟩,
   ⟨.call .val n_undertowref01_SameBytes [(.r 3), (.r 4)], some (2, true)⟩,
   ⟨.pick (.r 2) (.r 5) (.c (.bool false)), none⟩,
   ⟨.mv (.r 6), none⟩] [] [] [(2, 7, none)])
 (.drop [1, 3, 4, 5, 9, 20] []))
 (.ret)))))))⟩
/-- 6: undertow/undertowlaw13.SbufPlays -/
def h6 : Vm.Hint := ⟨[0, 2, 3, 4, 5, 6, 7, 8, 9, 10, 11, 12, 13, 14, 16, 28, 36, 37, 57, 58, 64, 77, 133], [6], [], [[0], [0, 0], [0], [0, 0, 0, 0, 0, 0], [0], [0, 0, 0, 0, 0, 0, 0, 0], [0, 0, 0], [0, 0, 0, 0, 1, 0], [0, 0], [0, 0], [0, 0, 0, 0, 0], [0, 0, 0, 1, 0], [0, 0, 0, 0, 1, 0, 0, 0, 0, 0, 0], [0], [0, 0], [0, 1], [0, 1], [0, 0], [0, 0, 0, 0, 1, 0, 0, 0, 0, 1, 0, 0], [0], [0, 0, 0, 0, 0, 0, 0, 0, 0, 0, 0, 0], [0, 0, 0, 0, 0, 0, 0, 0, 0, 0, 0, 0], [0, 0, 0, 0, 0, 0, 0, 0, 0, 0, 0, 0, 0, 0, 0, 0, 0, 0, 0, 0, 0, 0, 0, 0, 0, 0, 0, 0, 0, 0, 0, 0, 0, 0, 0, 0, 0, 0], [0], [0, 0, 0, 0, 0, 0, 0]], [([1], []), ([], []), ([0, 14], []), ([14], []), ([], []), ([], []), ([22], []), ([15], []), ([], []), ([], []), ([16, 17], []), ([], []), ([6, 7], []), ([0, 2, 3, 4, 5, 18], [(true, 0)]), ([17], []), ([16, 19], []), ([], []), ([16, 19], []), ([20], []), ([0, 2, 3, 4, 5, 21], [(true, 0)]), ([18, 20, 21], []), ([], []), ([5, 8, 9, 10, 11, 12, 13], [(true, 0)]), ([0, 2, 3, 4, 22], []), ([0, 2, 3, 4, 15], [])], []⟩
def ir_undertowlaw13_SbufPlaysl0 : C :=
 .seq (.seq (.reg [⟨.mv (.s 4), none⟩,
   ⟨.mv (.s 0), none⟩,
   ⟨.len 1 (.r 1), none⟩,
   ⟨.bin .lss (.r 0) (.r 2), none⟩,
   ⟨.mv (.r 3), none⟩,
   ⟨.mv (.s 4), some (4, true)⟩,
   ⟨.bin .lss (.r 5) (.c (.int .i64 60)), some (4, true)⟩,
   ⟨.pick (.r 4) (.r 6) (.c (.bool false)), none⟩] [] [] [(15, 7, none)])
 (.cond (.s 15) (.skip)
  (.exit 0)))
 (.seq (.block 1 (.seq (.seq (.reg [⟨.mv (.s 0), none⟩,
    ⟨.mv (.s 4), none⟩,
    ⟨.iaS 5 (.r 0) (.r 1), none⟩,
    ⟨.load 0 true 5 (.r 2), none⟩,
    ⟨.lalloc 0 [.int .i64 0, .int .i64 0, .int .i64 0, .int .i64 0, .int .u64 0], none⟩,
    ⟨.store 0 5 (.r 4) (.r 3), none⟩] [(true, 0)] [] [(5, 4, some 1)])
  (.drop [15] []))
  (.seq (.seq (.reg [⟨.off 0 (.s 5), none⟩,
    ⟨.load 0 false 1 (.r 0), none⟩] [] [] [(16, 1, none)])
  (.block 2 (.seq (.reg [⟨.bin .eql (.s 16) (.c (.int .i64 0)), none⟩,
     ⟨.mv (.r 0), none⟩] [] [] [(17, 1, none)])
   (.cond (.s 17) (.seq (.seq (.reg [⟨.mv (.s 2), none⟩,
      ⟨.off 1 (.s 5), none⟩,
      ⟨.load 0 true 4 (.r 1), none⟩,
      ⟨.call .val n_sbuf_Buffer_Fits [(.r 0), (.r 2)], none⟩,
      ⟨.mv (.r 3), none⟩] [] [] [(6, 4, none)])
    (.drop [16, 17] []))
    (.seq (.reg [⟨.mv (.s 2), none⟩,
      ⟨.off 1 (.s 5), none⟩,
      ⟨.load 0 true 4 (.r 1), none⟩,
      ⟨.call .heap n_sbuf_Buffer_Put [(.r 0), (.r 2)], none⟩,
      ⟨.mv (.r 3), none⟩] [] [] [(7, 4, none)])
    (.seq (.seq (.reg [⟨.mv (.s 7), none⟩,
      ⟨.mv (.s 3), none⟩,
      ⟨.off 1 (.s 5), none⟩,
      ⟨.load 0 true 4 (.r 2), none⟩,
      ⟨.call .heap n_undertowref13_Buffer_Put [(.r 1), (.r 3)], none⟩,
      ⟨.eqb true (.r 0) (.r 4), none⟩,
      ⟨.mv (.r 5), none⟩,
      ⟨.mv (.s 7), some (6, false)⟩,
      ⟨.mv (.s 6), some (6, false)⟩,
      ⟨.eqb true (.r 7) (.r 8), some (6, false)⟩,
      ⟨.pick (.r 6) (.c (.bool true)) (.r 9), none⟩] [] [] [(18, 10, none)])
    (.drop [6, 7] []))
    (.cond (.s 18) (.seq (.seq (.reg [⟨.mv (.c (.bool false)), none⟩] [] [] [(1, 0, none)])
     (.drop [0, 2, 3, 4, 5, 18] [(true, 0)]))
     (.ret))
     (.skip)))))
    (.seq (.seq (.reg [⟨.bin .eql (.s 16) (.c (.int .i64 1)), none⟩,
      ⟨.mv (.r 0), none⟩] [] [] [(19, 1, none)])
    (.drop [17] []))
    (.cond (.s 19) (.seq (.seq (.reg [⟨.mv (.s 2), none⟩,
       ⟨.call .heap n_sbuf_Buffer_Barrier [(.r 0)], none⟩] [] [] [])
     (.drop [16, 19] []))
     (.reg [⟨.mv (.s 3), none⟩,
       ⟨.call .heap n_undertowref13_Buffer_Barrier [(.r 0)], none⟩] [] [] []))
     (.seq (.seq (.reg [⟨.bin .eql (.s 16) (.c (.int .i64 2)), none⟩,
       ⟨.mv (.r 0), none⟩] [] [] [(20, 1, none)])
     (.drop [16, 19] []))
     (.cond (.s 20) (.seq (.seq (.reg [⟨.mv (.s 2), none⟩,
        ⟨.off 1 (.s 5), none⟩,
        ⟨.off 1 (.r 1), none⟩,
        ⟨.load 0 false 1 (.r 2), none⟩,
        ⟨.call .heap n_sbuf_Buffer_Drain [(.r 0), (.r 3)], none⟩,
        ⟨.mv (.s 3), none⟩,
        ⟨.off 1 (.s 5), none⟩,
        ⟨.off 1 (.r 6), none⟩,
        ⟨.load 0 false 1 (.r 7), none⟩,
        ⟨.call .heap n_undertowref13_Buffer_Drain [(.r 5), (.r 8)], none⟩,
        ⟨.call .val n_undertowref12_SameWrites [(.r 4), (.r 9)], none⟩,
        ⟨.un .not (.r 10), none⟩] [] [(3, 8), (4, 8)] [(21, 11, none)])
      (.drop [20] []))
      (.cond (.s 21) (.seq (.seq (.reg [⟨.mv (.c (.bool false)), none⟩] [] [] [(1, 0, none)])
       (.drop [0, 2, 3, 4, 5, 21] [(true, 0)]))
       (.ret))
       (.skip)))
      (.skip)))))))))
  (.seq (.seq (.reg [⟨.mv (.s 2), none⟩,
    ⟨.off 1 (.s 5), none⟩,
    ⟨.off 1 (.r 1), none⟩,
    ⟨.load 0 false 1 (.r 2), none⟩,
    ⟨.call .val n_sbuf_Buffer_Find [(.r 0), (.r 3)], none⟩,
    ⟨.mv (.r 4), none⟩,
    ⟨.ext (.r 5) 0, none⟩,
    ⟨.ext (.r 5) 1, none⟩,
    ⟨.ext (.r 5) 2, none⟩,
    ⟨.mv (.r 6), none⟩,
    ⟨.mv (.r 7), none⟩,
    ⟨.mv (.r 8), none⟩] [] [] [(8, 9, none), (9, 10, none), (10, 11, none)])
  (.drop [18, 20, 21] []))
  (.seq (.reg [⟨.mv (.s 3), none⟩,
    ⟨.off 1 (.s 5), none⟩,
    ⟨.off 1 (.r 1), none⟩,
    ⟨.load 0 false 1 (.r 2), none⟩,
    ⟨.call .val n_undertowref13_Buffer_Find [(.r 0), (.r 3)], none⟩,
    ⟨.mv (.r 4), none⟩,
    ⟨.ext (.r 5) 0, none⟩,
    ⟨.ext (.r 5) 1, none⟩,
    ⟨.ext (.r 5) 2, none⟩,
    ⟨.mv (.r 6), none⟩,
    ⟨.mv (.r 7), none⟩,
    ⟨.mv (.r 8), none⟩] [] [] [(11, 9, none), (12, 10, none), (13, 11, none)])
  (.seq (.seq (.reg [⟨.mv (.s 8), none⟩,
    ⟨.mv (.s 11), none⟩,
    ⟨.bin .neq (.r 0) (.r 1), none⟩,
    ⟨.mv (.r 2), none⟩,
    ⟨.mv (.s 9), some (3, false)⟩,
    ⟨.mv (.s 12), some (3, false)⟩,
    ⟨.bin .neq (.r 4) (.r 5), some (3, false)⟩,
    ⟨.pick (.r 3) (.c (.bool true)) (.r 6), none⟩,
    ⟨.mv (.r 7), none⟩,
    ⟨.mv (.s 10), some (8, false)⟩,
    ⟨.mv (.s 13), some (8, false)⟩,
    ⟨.eqb true (.r 9) (.r 10), some (8, false)⟩,
    ⟨.pick (.r 8) (.c (.bool true)) (.r 11), none⟩,
    ⟨.mv (.r 12), none⟩,
    ⟨.mv (.s 2), some (13, false)⟩,
    ⟨.off 1 (.s 5), some (13, false)⟩,
    ⟨.off 1 (.r 15), some (13, false)⟩,
    ⟨.load 0 false 1 (.r 16), some (13, false)⟩,
    ⟨.off 1 (.s 5), some (13, false)⟩,
    ⟨.off 2 (.r 18), some (13, false)⟩,
    ⟨.load 0 false 1 (.r 19), some (13, false)⟩,
    ⟨.call .val n_sbuf_Buffer_Overlaps [(.r 14), (.r 17), (.r 20)], some (13, false)⟩,
    ⟨.mv (.s 3), some (13, false)⟩,
    ⟨.off 1 (.s 5), some (13, false)⟩,
    ⟨.off 1 (.r 23), some (13, false)⟩,
    ⟨.load 0 false 1 (.r 24), some (13, false)⟩,
    ⟨.off 1 (.s 5), some (13, false)⟩,
    ⟨.off 2 (.r 26), some (13, false)⟩,
    ⟨.load 0 false 1 (.r 27), some (13, false)⟩,
    ⟨.call .val n_undertowref13_Buffer_Overlaps [(.r 22), (.r 25), (.r 28)], some (13, false)⟩,
    ⟨.eqb true (.r 21) (.r 29), some (13, false)⟩,
    ⟨.pick (.r 13) (.c (.bool true)) (.r 30), none⟩,
    ⟨.mv (.r 31), none⟩,
    ⟨.mv (.s 2), some (32, false)⟩,
    ⟨.mv (.s 3), some (32, false)⟩,
    ⟨.call .val n_undertowlaw13_same [(.r 33), (.r 34)], some (32, false)⟩,
    ⟨.un .not (.r 35), some (32, false)⟩,
    ⟨.pick (.r 32) (.c (.bool true)) (.r 36), none⟩] [] [(17, 20), (17, 25), (17, 28), (20, 25), (20, 28), (21, 25), (21, 28), (25, 28)] [(22, 37, none)])
  (.drop [5, 8, 9, 10, 11, 12, 13] [(true, 0)]))
  (.cond (.s 22) (.seq (.seq (.reg [⟨.mv (.c (.bool false)), none⟩] [] [] [(1, 0, none)])
   (.drop [0, 2, 3, 4, 22] []))
   (.ret))
   (.skip))))))))
 (.seq (.reg [⟨.mv (.s 4), none⟩,
   ⟨.bin .add (.r 0) (.c (.int .i64 1)), none⟩,
   ⟨.mv (.r 1), none⟩] [] [] [(4, 2, none)])
 (.drop [22] [])))
def ir_undertowlaw13_SbufPlays : Vm.Fn := ⟨[0, 2, 3, 4, 5, 6, 7, 8, 9, 10, 11, 12, 13, 14, 16, 28, 36, 37, 57, 58, 64, 77, 133], 1, 0, [.slot 1],
 .seq (.seq (.reg [⟨.mv (.c (.bool false)), none⟩] [] [] [(1, 0, none)])
 (.drop [1] []))
 (.seq (.seq (.reg [⟨.call .val n_undertowlaw13_alive [], none⟩,
   ⟨.un .not (.r 0), none⟩] [] [] [(14, 1, none)])
 (.cond (.s 14) (.seq (.seq (.reg [⟨.mv (.c (.bool false)), none⟩] [] [] [(1, 0, none)])
  (.drop [0, 14] []))
  (.ret))
  (.skip)))
 (.seq (.seq (.reg [⟨.build [.nils, .int .i64 0] [], none⟩,
   ⟨.hbox 2 (.r 0), none⟩,
   ⟨.build [.nils, .int .i64 0] [], none⟩,
   ⟨.hbox 2 (.r 2), none⟩,
   ⟨.mv (.r 1), none⟩,
   ⟨.mv (.r 3), none⟩] [] [] [(2, 4, none), (3, 5, none)])
 (.drop [14] []))
 (.seq (.seq (.reg [⟨.mv (.c (.int .i64 0)), none⟩] [] [] [(4, 0, none)])
 (.block 0 (.loop ir_undertowlaw13_SbufPlaysl0)))
 (.seq (.seq (.reg [⟨.call .val n_undertowlaw13_alive [], none⟩,
   ⟨.mv (.r 0), none⟩,
   ⟨.mv (.s 2), some (1, true)⟩,
   ⟨.mv (.s 3), some (1, true)⟩,
   ⟨.call .val n_undertowlaw13_same [(.r 2), (.r 3)], some (1, true)⟩,
   ⟨.pick (.r 1) (.r 4) (.c (.bool false)), none⟩,
   ⟨.mv (.r 5), none⟩] [] [] [(1, 6, none)])
 (.drop [0, 2, 3, 4, 15] []))
 (.ret)))))⟩
/-- 7: undertow/undertowlaw13.SbufNone -/
def h7 : Vm.Hint := ⟨[0, 1, 2, 3, 4, 5, 6, 8], [1], [], [[1, 0], [0, 0], [0], [0], [0, 1], [0, 0, 0, 0, 0, 0, 0, 0, 0, 0, 0], [0, 0, 0, 0, 0, 0, 0, 0, 0, 0, 1, 0, 0, 0, 0, 0, 0, 0, 0, 0, 0, 0, 0, 0, 0, 0, 0, 0, 0, 0, 1, 0, 0, 0, 0, 0, 0, 0, 0, 0, 0, 0, 0, 0, 0, 0, 0, 0, 0, 0, 0, 0, 0, 0, 0, 0, 0, 0]], [([0, 2], []), ([], []), ([1, 7], [(true, 0)]), ([7], []), ([], []), ([], []), ([1, 3, 4, 5, 6], [(true, 0)])], []⟩
def ir_undertowlaw13_SbufNone : Vm.Fn := ⟨[0, 1, 2, 3, 4, 5, 6, 8], 1, 0, [.slot 2],
 .seq (.seq (.reg [⟨.lbox 0 4 (.s 0), none⟩,
   ⟨.mv (.c (.bool false)), none⟩] [(true, 0)] [] [(1, 0, some 1), (2, 1, none)])
 (.drop [0, 2] []))
 (.seq (.seq (.reg [⟨.call .val n_undertowlaw13_alive [], none⟩,
   ⟨.un .not (.r 0), none⟩] [] [] [(7, 1, none)])
 (.cond (.s 7) (.seq (.seq (.reg [⟨.mv (.c (.bool false)), none⟩] [] [] [(2, 0, none)])
  (.drop [1, 7] [(true, 0)]))
  (.ret))
  (.skip)))
 (.seq (.seq (.reg [⟨.mv (.c (.nilp)), none⟩] [] [] [(3, 0, none)])
 (.drop [7] []))
 (.seq (.reg [⟨.mv (.s 3), none⟩,
   ⟨.call .heap n_sbuf_Buffer_Barrier [(.r 0)], none⟩] [] [] [])
 (.seq (.reg [⟨.mv (.s 3), none⟩,
   ⟨.off 1 (.s 1), none⟩,
   ⟨.load 0 false 1 (.r 1), none⟩,
   ⟨.call .val n_sbuf_Buffer_Find [(.r 0), (.r 2)], none⟩,
   ⟨.mv (.r 3), none⟩,
   ⟨.ext (.r 4) 0, none⟩,
   ⟨.ext (.r 4) 1, none⟩,
   ⟨.ext (.r 4) 2, none⟩,
   ⟨.mv (.r 5), none⟩,
   ⟨.mv (.r 6), none⟩,
   ⟨.mv (.r 7), none⟩] [] [] [(4, 8, none), (5, 9, none), (6, 10, none)])
 (.seq (.seq (.reg [⟨.call .val n_undertowlaw13_alive [], none⟩,
   ⟨.mv (.r 0), none⟩,
   ⟨.mv (.s 3), some (1, true)⟩,
   ⟨.load 0 true 4 (.s 1), some (1, true)⟩,
   ⟨.call .val n_sbuf_Buffer_Fits [(.r 2), (.r 3)], some (1, true)⟩,
   ⟨.un .not (.r 4), some (1, true)⟩,
   ⟨.pick (.r 1) (.r 5) (.c (.bool false)), none⟩,
   ⟨.mv (.r 6), none⟩,
   ⟨.mv (.s 3), some (7, true)⟩,
   ⟨.load 0 true 4 (.s 1), some (7, true)⟩,
   ⟨.call .heap n_sbuf_Buffer_Put [(.r 8), (.r 9)], some (7, true)⟩,
   ⟨.un .not (.r 10), some (7, true)⟩,
   ⟨.pick (.r 7) (.r 11) (.c (.bool false)), none⟩,
   ⟨.mv (.r 12), none⟩,
   ⟨.mv (.s 4), some (13, true)⟩,
   ⟨.bin .eql (.r 14) (.c (.int .u8 0)), some (13, true)⟩,
   ⟨.pick (.r 13) (.r 15) (.c (.bool false)), none⟩,
   ⟨.mv (.r 16), none⟩,
   ⟨.mv (.s 5), some (17, true)⟩,
   ⟨.bin .eql (.r 18) (.c (.int .i64 0)), some (17, true)⟩,
   ⟨.pick (.r 17) (.r 19) (.c (.bool false)), none⟩,
   ⟨.mv (.r 20), none⟩,
   ⟨.mv (.s 6), some (21, true)⟩,
   ⟨.un .not (.r 22), some (21, true)⟩,
   ⟨.pick (.r 21) (.r 23) (.c (.bool false)), none⟩,
   ⟨.mv (.r 24), none⟩,
   ⟨.mv (.s 3), some (25, true)⟩,
   ⟨.call .val n_sbuf_Buffer_Ready [(.r 26)], some (25, true)⟩,
   ⟨.len 1 (.r 27), some (25, true)⟩,
   ⟨.mv (.s 3), some (25, true)⟩,
   ⟨.call .heap n_sbuf_Buffer_Drain [(.r 29), (.c (.int .i64 0))], some (25, true)⟩,
   ⟨.len 1 (.r 30), some (25, true)⟩,
   ⟨.bin .add (.r 28) (.r 31), some (25, true)⟩,
   ⟨.mv (.s 3), some (25, true)⟩,
   ⟨.call .val n_sbuf_Buffer_Entries [(.r 33)], some (25, true)⟩,
   ⟨.len 1 (.r 34), some (25, true)⟩,
   ⟨.bin .add (.r 32) (.r 35), some (25, true)⟩,
   ⟨.bin .eql (.r 36) (.c (.int .i64 0)), some (25, true)⟩,
   ⟨.pick (.r 25) (.r 37) (.c (.bool false)), none⟩,
   ⟨.mv (.r 38), none⟩,
   ⟨.mv (.s 3), some (39, true)⟩,
   ⟨.call .val n_sbuf_Buffer_Empty [(.r 40)], some (39, true)⟩,
   ⟨.pick (.r 39) (.r 41) (.c (.bool false)), none⟩,
   ⟨.mv (.r 42), none⟩,
   ⟨.mv (.s 3), some (43, true)⟩,
   ⟨.call .val n_sbuf_Buffer_Elder [(.r 44)], some (43, true)⟩,
   ⟨.un .not (.r 45), some (43, true)⟩,
   ⟨.pick (.r 43) (.r 46) (.c (.bool false)), none⟩,
   ⟨.mv (.r 47), none⟩,
   ⟨.mv (.s 3), some (48, true)⟩,
   ⟨.off 1 (.s 1), some (48, true)⟩,
   ⟨.load 0 false 1 (.r 50), some (48, true)⟩,
   ⟨.off 2 (.s 1), some (48, true)⟩,
   ⟨.load 0 false 1 (.r 52), some (48, true)⟩,
   ⟨.call .val n_sbuf_Buffer_Overlaps [(.r 49), (.r 51), (.r 53)], some (48, true)⟩,
   ⟨.un .not (.r 54), some (48, true)⟩,
   ⟨.pick (.r 48) (.r 55) (.c (.bool false)), none⟩,
   ⟨.mv (.r 56), none⟩] [] [] [(2, 57, none)])
 (.drop [1, 3, 4, 5, 6] [(true, 0)]))
 (.ret))))))⟩
/-- 8: undertow/undertowlaw13.alive -/
def h8 : Vm.Hint := ⟨[0, 1, 2, 3, 4, 5, 6, 7], [], [], [[0], [0, 0, 0], [0, 0, 1, 0], [0, 0, 1, 0], [0, 1], [0, 0, 1, 0], [0, 0, 0, 0, 0, 0, 0, 0, 0], [0, 0, 0, 0, 0, 0, 0, 0, 0, 0, 0, 0, 0, 0, 0, 0, 0, 0, 0, 0, 0, 0, 0, 0, 0, 0, 0, 0, 0, 0, 0, 0, 0, 0, 0, 0, 1, 0, 0, 0, 0]], [([0], []), ([], []), ([], []), ([], []), ([], []), ([], []), ([], []), ([1, 2, 3, 4, 5, 6, 7], [])], []⟩
def ir_undertowlaw13_alive : Vm.Fn := ⟨[0, 1, 2, 3, 4, 5, 6, 7], 0, 0, [.slot 0],
 .seq (.seq (.reg [⟨.mv (.c (.bool false)), none⟩] [] [] [(0, 0, none)])
 (.drop [0] []))
 (.seq (.reg [⟨.build [.nils, .int .i64 0] [], none⟩,
   ⟨.hbox 2 (.r 0), none⟩,
   ⟨.mv (.r 1), none⟩] [] [] [(1, 2, none)])
 (.seq (.reg [⟨.mv (.s 1), none⟩,
   ⟨.build [.int .i64 0, .int .i64 0, .int .i64 0, .int .u64 0] [(0, 1, (.c (.int .i64 1))), (2, 1, (.c (.int .i64 4))), (3, 1, (.c (.int .u64 5)))], none⟩,
   ⟨.call .heap n_sbuf_Buffer_Put [(.r 0), (.r 1)], none⟩,
   ⟨.mv (.r 2), none⟩] [] [] [(2, 3, none)])
 (.seq (.reg [⟨.mv (.s 1), none⟩,
   ⟨.build [.int .i64 0, .int .i64 0, .int .i64 0, .int .u64 0] [(0, 1, (.c (.int .i64 2))), (1, 1, (.c (.int .i64 4))), (2, 1, (.c (.int .i64 4)))], none⟩,
   ⟨.call .heap n_sbuf_Buffer_Put [(.r 0), (.r 1)], none⟩,
   ⟨.mv (.r 2), none⟩] [] [] [(3, 3, none)])
 (.seq (.reg [⟨.mv (.s 1), none⟩,
   ⟨.call .heap n_sbuf_Buffer_Barrier [(.r 0)], none⟩] [] [] [])
 (.seq (.reg [⟨.mv (.s 1), none⟩,
   ⟨.build [.int .i64 0, .int .i64 0, .int .i64 0, .int .u64 0] [(0, 1, (.c (.int .i64 3))), (2, 1, (.c (.int .i64 1))), (3, 1, (.c (.int .u64 9)))], none⟩,
   ⟨.call .heap n_sbuf_Buffer_Put [(.r 0), (.r 1)], none⟩,
   ⟨.mv (.r 2), none⟩] [] [] [(4, 3, none)])
 (.seq (.reg [⟨.mv (.s 1), none⟩,
   ⟨.call .val n_sbuf_Buffer_Find [(.r 0), (.c (.int .i64 0))], none⟩,
   ⟨.mv (.r 1), none⟩,
   ⟨.ext (.r 2) 0, none⟩,
   ⟨.ext (.r 2) 1, none⟩,
   ⟨.ext (.r 2) 2, none⟩,
   ⟨.mv (.r 3), none⟩,
   ⟨.mv (.r 4), none⟩,
   ⟨.mv (.r 5), none⟩] [] [] [(5, 6, none), (6, 7, none), (7, 8, none)])
 (.seq (.seq (.reg [⟨.mv (.s 2), none⟩,
   ⟨.mv (.r 0), none⟩,
   ⟨.mv (.s 3), some (1, true)⟩,
   ⟨.pick (.r 1) (.r 2) (.c (.bool false)), none⟩,
   ⟨.mv (.r 3), none⟩,
   ⟨.mv (.s 4), some (4, true)⟩,
   ⟨.pick (.r 4) (.r 5) (.c (.bool false)), none⟩,
   ⟨.mv (.r 6), none⟩,
   ⟨.mv (.s 7), some (7, true)⟩,
   ⟨.pick (.r 7) (.r 8) (.c (.bool false)), none⟩,
   ⟨.mv (.r 9), none⟩,
   ⟨.mv (.s 5), some (10, true)⟩,
   ⟨.bin .eql (.r 11) (.c (.int .u8 9)), some (10, true)⟩,
   ⟨.pick (.r 10) (.r 12) (.c (.bool false)), none⟩,
   ⟨.mv (.r 13), none⟩,
   ⟨.mv (.s 6), some (14, true)⟩,
   ⟨.bin .eql (.r 15) (.c (.int .i64 3)), some (14, true)⟩,
   ⟨.pick (.r 14) (.r 16) (.c (.bool false)), none⟩,
   ⟨.mv (.r 17), none⟩,
   ⟨.mv (.s 1), some (18, true)⟩,
   ⟨.call .val n_sbuf_Buffer_Entries [(.r 19)], some (18, true)⟩,
   ⟨.len 1 (.r 20), some (18, true)⟩,
   ⟨.bin .eql (.r 21) (.c (.int .i64 2)), some (18, true)⟩,
   ⟨.pick (.r 18) (.r 22) (.c (.bool false)), none⟩,
   ⟨.mv (.r 23), none⟩,
   ⟨.mv (.s 1), some (24, true)⟩,
   ⟨.call .val n_sbuf_Buffer_Ready [(.r 25)], some (24, true)⟩,
   ⟨.lit 0 1 [[.int .i64 0]] [(0, (.c (.int .i64 0)))], some (24, true)⟩,
   ⟨.call .val n_undertowref02_SameInts [(.r 26), (.r 27)], some (24, true)⟩,
   ⟨.pick (.r 24) (.r 28) (.c (.bool false)), none⟩,
   ⟨.mv (.r 29), none⟩,
   ⟨.mv (.s 1), some (30, true)⟩,
   ⟨.call .val n_sbuf_Buffer_Elder [(.r 31)], some (30, true)⟩,
   ⟨.pick (.r 30) (.r 32) (.c (.bool false)), none⟩,
   ⟨.mv (.r 33), none⟩,
   ⟨.mv (.s 1), some (34, true)⟩,
   ⟨.call .heap n_sbuf_Buffer_Drain [(.r 35), (.c (.int .i64 0))], some (34, true)⟩,
   ⟨.len 1 (.r 36), some (34, true)⟩,
   ⟨.bin .eql (.r 37) (.c (.int .i64 2)), some (34, true)⟩,
   ⟨.pick (.r 34) (.r 38) (.c (.bool false)), none⟩,
   ⟨.mv (.r 39), none⟩] [] [] [(0, 40, none)])
 (.drop [1, 2, 3, 4, 5, 6, 7] []))
 (.ret))))))))⟩
/-- 9: (*undertow/sbuf.Buffer).Put -/
def h9 : Vm.Hint := ⟨[0, 1, 3, 4, 5, 10, 30], [3], [], [[1, 0], [0, 0, 0, 0], [0], [0, 0, 0, 0, 0, 0, 0, 0], [0, 0, 0, 0, 0, 0, 0, 0], [0, 0, 0, 0, 0, 0, 0], [0, 0, 0, 0, 0, 0, 0, 0, 0, 0, 0, 0, 0, 1, 0, 0, 0, 0], [0, 0, 0, 0, 0, 0, 0, 0, 0, 0, 0, 0, 0, 0, 1, 2, 0, 0, 0], [0]], [([1, 3], []), ([], []), ([0, 2, 5], [(true, 0)]), ([5], []), ([], []), ([], []), ([6], []), ([0, 2, 4, 6], [(true, 0)]), ([], [])], []⟩
def ir_sbuf_Buffer_Put : Vm.Fn := ⟨[0, 1, 3, 4, 5, 10, 30], 1, 0, [.slot 3],
 .seq (.seq (.reg [⟨.lbox 0 4 (.s 1), none⟩,
   ⟨.mv (.c (.bool false)), none⟩] [(true, 0)] [] [(2, 0, some 1), (3, 1, none)])
 (.drop [1, 3] []))
 (.seq (.seq (.reg [⟨.mv (.s 0), none⟩,
   ⟨.load 0 true 4 (.s 2), none⟩,
   ⟨.call .val n_sbuf_Buffer_Fits [(.r 0), (.r 1)], none⟩,
   ⟨.un .not (.r 2), none⟩] [] [] [(5, 3, none)])
 (.cond (.s 5) (.seq (.seq (.reg [⟨.mv (.c (.bool false)), none⟩] [] [] [(3, 0, none)])
  (.drop [0, 2, 5] [(true, 0)]))
  (.ret))
  (.skip)))
 (.seq (.seq (.reg [⟨.off 3 (.s 2), none⟩,
   ⟨.load 0 false 1 (.r 0), none⟩,
   ⟨.off 2 (.s 2), none⟩,
   ⟨.load 0 false 1 (.r 2), none⟩,
   ⟨.bin .mul (.c (.int .i64 8)) (.r 3), none⟩,
   ⟨.call .val n_word_Zext [(.r 1), (.r 4)], none⟩,
   ⟨.off 3 (.s 2), none⟩,
   ⟨.store 0 1 (.r 6) (.r 5), none⟩] [] [] [])
 (.drop [5] []))
 (.seq (.reg [⟨.mv (.s 0), none⟩,
   ⟨.load 0 true 4 (.s 2), none⟩,
   ⟨.call .val n_sbuf_Buffer_place [(.r 0), (.r 1)], none⟩,
   ⟨.mv (.r 2), none⟩,
   ⟨.ext (.r 3) 0, none⟩,
   ⟨.ext (.r 3) 1, none⟩,
   ⟨.mv (.r 4), none⟩,
   ⟨.mv (.r 5), none⟩] [] [] [(4, 6, none)])
 (.seq (.seq (.reg [⟨.mv (.s 4), none⟩,
   ⟨.mv (.s 0), none⟩,
   ⟨.nilck (.r 1), none⟩,
   ⟨.off 0 (.r 2), none⟩,
   ⟨.load 0 false 1 (.r 3), none⟩,
   ⟨.len 1 (.r 4), none⟩,
   ⟨.bin .eql (.r 0) (.r 5), none⟩] [] [] [(6, 6, none)])
 (.cond (.s 6) (.seq (.reg [⟨.mv (.s 0), none⟩,
    ⟨.mv (.s 0), none⟩,
    ⟨.nilck (.r 1), none⟩,
    ⟨.off 0 (.r 2), none⟩,
    ⟨.load 0 false 1 (.r 3), none⟩,
    ⟨.off 1 (.s 2), none⟩,
    ⟨.load 0 false 1 (.r 5), none⟩,
    ⟨.bin .quo (.r 6) (.c (.int .i64 8)), none⟩,
    ⟨.mv (.s 0), none⟩,
    ⟨.nilck (.r 8), none⟩,
    ⟨.off 1 (.r 9), none⟩,
    ⟨.load 0 false 1 (.r 10), none⟩,
    ⟨.build [.int .i64 0, .int .i64 0, .nils] [(0, 1, (.r 7)), (1, 1, (.r 11))], none⟩,
    ⟨.lit 1 3 [[.int .i64 0, .int .i64 0, .nils]] [(0, (.r 12))], none⟩,
    ⟨.app 0 3 40 (.r 4) (.r 13), none⟩,
    ⟨.nilck (.r 0), none⟩,
    ⟨.off 0 (.r 15), none⟩,
    ⟨.store 0 1 (.r 16) (.r 14), none⟩] [] [(4, 6), (4, 11), (6, 11)] [])
  (.drop [6] []))
  (.skip)))
 (.seq (.seq (.reg [⟨.mv (.s 0), none⟩,
   ⟨.nilck (.r 0), none⟩,
   ⟨.off 0 (.r 1), none⟩,
   ⟨.load 0 false 1 (.r 2), none⟩,
   ⟨.mv (.s 4), none⟩,
   ⟨.mv (.s 0), none⟩,
   ⟨.nilck (.r 5), none⟩,
   ⟨.off 0 (.r 6), none⟩,
   ⟨.load 0 false 1 (.r 7), none⟩,
   ⟨.mv (.s 4), none⟩,
   ⟨.iaS 3 (.r 8) (.r 9), none⟩,
   ⟨.off 2 (.r 10), none⟩,
   ⟨.load 0 false 1 (.r 11), none⟩,
   ⟨.load 0 true 4 (.s 2), none⟩,
   ⟨.lit 1 4 [[.int .i64 0, .int .i64 0, .int .i64 0, .int .u64 0]] [(0, (.r 13))], none⟩,
   ⟨.app 2 4 32 (.r 12) (.r 14), none⟩,
   ⟨.iaS 3 (.r 3) (.r 4), none⟩,
   ⟨.off 2 (.r 16), none⟩,
   ⟨.store 0 1 (.r 17) (.r 15), none⟩] [] [(3, 8), (3, 10), (3, 12), (3, 13), (3, 15), (8, 13), (10, 13), (12, 13)] [])
 (.drop [0, 2, 4, 6] [(true, 0)]))
 (.seq (.reg [⟨.mv (.c (.bool true)), none⟩] [] [] [(3, 0, none)])
 (.ret)))))))⟩
/-- 10: (*undertow/sbuf.Buffer).Barrier -/
def h10 : Vm.Hint := ⟨[0, 1, 11], [], [], [[0], [0, 0, 0, 0, 0, 0, 0, 0, 0, 0], [0, 0, 0, 0, 0, 0, 0, 0]], [([0], []), ([], []), ([1, 2], [])], []⟩
def ir_sbuf_Buffer_Barrier : Vm.Fn := ⟨[0, 1, 11], 0, 0, [],
 .seq (.seq (.reg [⟨.hbox 1 (.s 0), none⟩] [] [] [(1, 0, none)])
 (.drop [0] []))
 (.seq (.reg [⟨.load 0 false 1 (.s 1), none⟩,
   ⟨.eqn .ptr true (.r 0) (.c (.nilp)), none⟩,
   ⟨.mv (.r 1), none⟩,
   ⟨.load 0 false 1 (.s 1), some (2, true)⟩,
   ⟨.nilck (.r 3), some (2, true)⟩,
   ⟨.off 0 (.r 4), some (2, true)⟩,
   ⟨.load 0 false 1 (.r 5), some (2, true)⟩,
   ⟨.mkfn 33 [] [(.s 1)], some (2, true)⟩,
   ⟨.call .val n_slices_ContainsFunc_sbuf_entry_sbuf_entry [(.r 6), (.r 7)], some (2, true)⟩,
   ⟨.pick (.r 2) (.r 8) (.c (.bool false)), none⟩] [] [] [(2, 9, none)])
 (.cond (.s 2) (.seq (.reg [⟨.load 0 false 1 (.s 1), none⟩,
    ⟨.nilck (.r 0), none⟩,
    ⟨.off 1 (.r 1), none⟩,
    ⟨.load 0 false 1 (.r 2), none⟩,
    ⟨.bin .add (.r 3) (.c (.int .i64 1)), none⟩,
    ⟨.nilck (.r 0), none⟩,
    ⟨.off 1 (.r 5), none⟩,
    ⟨.store 0 1 (.r 6) (.r 4), none⟩] [] [] [])
  (.drop [1, 2] []))
  (.skip)))⟩
/-- 11: (*undertow/sbuf.Buffer).Drain -/
def h11 : Vm.Hint := ⟨[0, 1, 4, 5, 10], [], [], [[0], [0, 0, 0, 0, 0], [0], [0, 0, 0, 0, 0, 0, 0, 0, 0], [0, 0, 0, 0, 0, 0, 0, 0, 1, 0, 0, 0], [0, 0]], [([2], []), ([], []), ([0, 1, 4], []), ([4], []), ([0, 1], []), ([3], [])], []⟩
def ir_sbuf_Buffer_Drain : Vm.Fn := ⟨[0, 1, 4, 5, 10], 0, 0, [.slot 2],
 .seq (.seq (.reg [⟨.mv (.c (.nils)), none⟩] [] [] [(2, 0, none)])
 (.drop [2] []))
 (.seq (.seq (.reg [⟨.mv (.s 0), none⟩,
   ⟨.call .val n_sbuf_Buffer_Ready [(.r 0)], none⟩,
   ⟨.mv (.s 1), none⟩,
   ⟨.call .val n_slices_Contains_int_int [(.r 1), (.r 2)], none⟩,
   ⟨.un .not (.r 3), none⟩] [] [] [(4, 4, none)])
 (.cond (.s 4) (.seq (.seq (.reg [⟨.mv (.c (.nils)), none⟩] [] [] [(2, 0, none)])
  (.drop [0, 1, 4] []))
  (.ret))
  (.skip)))
 (.seq (.seq (.reg [⟨.mv (.s 0), none⟩,
   ⟨.nilck (.r 0), none⟩,
   ⟨.off 0 (.r 1), none⟩,
   ⟨.load 0 false 1 (.r 2), none⟩,
   ⟨.mv (.s 1), none⟩,
   ⟨.iaS 3 (.r 3) (.r 4), none⟩,
   ⟨.off 2 (.r 5), none⟩,
   ⟨.load 0 false 1 (.r 6), none⟩,
   ⟨.mv (.r 7), none⟩] [] [] [(3, 8, none)])
 (.drop [4] []))
 (.seq (.seq (.reg [⟨.mv (.s 0), none⟩,
   ⟨.mv (.s 0), none⟩,
   ⟨.nilck (.r 1), none⟩,
   ⟨.off 0 (.r 2), none⟩,
   ⟨.load 0 false 1 (.r 3), none⟩,
   ⟨.mv (.s 1), none⟩,
   ⟨.mv (.s 1), none⟩,
   ⟨.bin .add (.r 6) (.c (.int .i64 1)), none⟩,
   ⟨.call .heap n_slices_Delete_sbuf_entry_sbuf_entry [(.r 4), (.r 5), (.r 7)], none⟩,
   ⟨.nilck (.r 0), none⟩,
   ⟨.off 0 (.r 9), none⟩,
   ⟨.store 0 1 (.r 10) (.r 8), none⟩] [] [] [])
 (.drop [0, 1] []))
 (.seq (.seq (.reg [⟨.mv (.s 3), none⟩,
   ⟨.mv (.r 0), none⟩] [] [] [(2, 1, none)])
 (.drop [3] []))
 (.ret)))))⟩
/-- 12: undertow/undertowref01.Zext -/
def h12 : Vm.Hint := ⟨[0, 1, 4, 5, 6, 13, 21], [], [], [[0], [0], [0], [0, 0, 0, 0, 0, 0, 0], [0, 0, 0], [0, 0, 0, 0, 0, 0], [0, 0, 0, 0, 0, 0], [0, 0]], [], []⟩
def ir_undertowref01_Zextl0 : C :=
 .seq (.seq (.reg [⟨.mv (.s 4), none⟩,
   ⟨.bin .lss (.r 0) (.c (.int .i64 64)), none⟩,
   ⟨.mv (.r 1), none⟩,
   ⟨.mv (.s 4), some (2, true)⟩,
   ⟨.mv (.s 1), some (2, true)⟩,
   ⟨.bin .lss (.r 3) (.r 4), some (2, true)⟩,
   ⟨.pick (.r 2) (.r 5) (.c (.bool false)), none⟩] [] [] [(5, 6, none)])
 (.cond (.s 5) (.skip)
  (.exit 0)))
 (.seq (.block 1 (.seq (.reg [⟨.mv (.s 0), none⟩,
    ⟨.mv (.s 4), none⟩,
    ⟨.i2i .u64 (.r 1), none⟩,
    ⟨.bin .shr (.r 0) (.r 2), none⟩,
    ⟨.bin .and (.r 3) (.c (.int .u64 1)), none⟩,
    ⟨.bin .eql (.r 4) (.c (.int .u64 1)), none⟩] [] [] [(6, 5, none)])
  (.cond (.s 6) (.reg [⟨.mv (.s 3), none⟩,
     ⟨.mv (.s 4), none⟩,
     ⟨.i2i .u64 (.r 1), none⟩,
     ⟨.bin .shl (.c (.int .u64 1)) (.r 2), none⟩,
     ⟨.bin .add (.r 0) (.r 3), none⟩,
     ⟨.mv (.r 4), none⟩] [] [] [(3, 5, none)])
   (.skip))))
 (.reg [⟨.mv (.s 4), none⟩,
   ⟨.bin .add (.r 0) (.c (.int .i64 1)), none⟩,
   ⟨.mv (.r 1), none⟩] [] [] [(4, 2, none)]))
def ir_undertowref01_Zext : Vm.Fn := ⟨[0, 1, 4, 5, 6, 13, 21], 0, 0, [.slot 2],
 .seq (.reg [⟨.mv (.c (.int .u64 0)), none⟩] [] [] [(2, 0, none)])
 (.seq (.reg [⟨.mv (.c (.int .u64 0)), none⟩] [] [] [(3, 0, none)])
 (.seq (.seq (.reg [⟨.mv (.c (.int .i64 0)), none⟩] [] [] [(4, 0, none)])
 (.block 0 (.loop ir_undertowref01_Zextl0)))
 (.seq (.reg [⟨.mv (.s 3), none⟩,
   ⟨.mv (.r 0), none⟩] [] [] [(2, 1, none)])
 (.ret))))⟩
/-- 13: (*undertow/sbuf.Buffer).Find -/
def h13 : Vm.Hint := ⟨[0, 1, 4, 5, 6, 7, 8, 10, 11, 12, 14, 18, 19, 20, 21, 27, 33, 53, 59], [7, 10, 12], [], [[0, 0, 0], [0, 0], [0, 0, 0], [1], [0], [0, 0, 0, 0, 0, 0], [0], [0, 0, 2, 0], [0, 0, 0, 0], [0, 0, 0, 0, 0], [0, 0], [0, 0, 0], [0, 0, 0, 0, 0, 3, 0], [0, 0, 0, 0, 0, 0, 0, 0, 0, 0, 0, 0, 0], [0, 0, 0, 0, 0], [0, 0], [0, 0], [0, 0, 0], [0, 0, 0, 0, 0, 0, 0, 0, 0, 0, 0, 0, 0, 0]], [([2, 3, 4], []), ([], []), ([0, 1, 10], []), ([10], []), ([], []), ([0], []), ([], []), ([14], []), ([], []), ([15], []), ([], []), ([9, 17], [(true, 2)]), ([16], []), ([], []), ([7, 8, 9, 17], [(true, 1), (true, 2)]), ([7, 8, 15, 16], [(true, 1)]), ([6, 11, 12, 13, 14], []), ([1, 5, 18], [(true, 0)]), ([1, 5, 18], [(true, 0)])], []⟩
def ir_sbuf_Buffer_Findl0 : C :=
 .seq (.seq (.reg [⟨.mv (.s 8), none⟩,
   ⟨.bin .geq (.r 0) (.c (.int .i64 0)), none⟩] [] [] [(16, 1, none)])
 (.cond (.s 16) (.skip)
  (.exit 2)))
 (.seq (.block 3 (.seq (.seq (.reg [⟨.off 2 (.s 7), none⟩,
    ⟨.load 0 false 1 (.r 0), none⟩,
    ⟨.mv (.s 8), none⟩,
    ⟨.iaS 4 (.r 1) (.r 2), none⟩,
    ⟨.load 0 true 4 (.r 3), none⟩,
    ⟨.lalloc 2 [.int .i64 0, .int .i64 0, .int .i64 0, .int .u64 0], none⟩,
    ⟨.store 0 4 (.r 5) (.r 4), none⟩] [(true, 2)] [] [(9, 5, some 5)])
  (.drop [16] []))
  (.seq (.reg [⟨.mv (.s 1), none⟩,
    ⟨.off 1 (.s 9), none⟩,
    ⟨.load 0 false 1 (.r 1), none⟩,
    ⟨.bin .geq (.r 0) (.r 2), none⟩,
    ⟨.mv (.r 3), none⟩,
    ⟨.mv (.s 1), some (4, true)⟩,
    ⟨.off 1 (.s 9), some (4, true)⟩,
    ⟨.load 0 false 1 (.r 6), some (4, true)⟩,
    ⟨.bin .sub (.r 5) (.r 7), some (4, true)⟩,
    ⟨.off 2 (.s 9), some (4, true)⟩,
    ⟨.load 0 false 1 (.r 9), some (4, true)⟩,
    ⟨.bin .lss (.r 8) (.r 10), some (4, true)⟩,
    ⟨.pick (.r 4) (.r 11) (.c (.bool false)), none⟩] [] [] [(17, 12, none)])
  (.cond (.s 17) (.seq (.seq (.reg [⟨.load 0 true 4 (.s 9), none⟩,
     ⟨.off 1 (.s 7), none⟩,
     ⟨.load 0 false 1 (.r 1), none⟩,
     ⟨.store 0 4 (.s 5) (.r 0), none⟩,
     ⟨.mv (.r 2), none⟩] [] [(0, 2), (2, 3)] [(6, 4, none)])
   (.drop [7, 8, 9, 17] [(true, 1), (true, 2)]))
   (.exit 1))
   (.skip)))))
 (.seq (.reg [⟨.mv (.s 8), none⟩,
   ⟨.bin .sub (.r 0) (.c (.int .i64 1)), none⟩,
   ⟨.mv (.r 1), none⟩] [] [] [(8, 2, none)])
 (.drop [9, 17] [(true, 2)])))
def ir_sbuf_Buffer_Findl1 : C :=
 .seq (.reg [⟨.bin .lss (.s 13) (.s 12), none⟩] [] [] [(14, 0, none)])
 (.seq (.cond (.s 14) (.skip)
  (.exit 0))
 (.seq (.block 1 (.seq (.seq (.reg [⟨.iaS 3 (.s 11) (.s 13), none⟩,
    ⟨.load 0 true 3 (.r 0), none⟩,
    ⟨.lalloc 1 [.int .i64 0, .int .i64 0, .nils], none⟩,
    ⟨.store 0 3 (.r 2) (.r 1), none⟩] [(true, 1)] [] [(7, 2, some 3)])
  (.drop [14] []))
  (.seq (.seq (.reg [⟨.off 1 (.s 7), none⟩,
    ⟨.load 0 false 1 (.r 0), none⟩,
    ⟨.mv (.s 6), none⟩,
    ⟨.bin .lss (.r 1) (.r 2), none⟩] [] [] [(15, 3, none)])
  (.cond (.s 15) (.exit 1)
   (.skip)))
  (.seq (.seq (.reg [⟨.off 2 (.s 7), none⟩,
    ⟨.load 0 false 1 (.r 0), none⟩,
    ⟨.len 1 (.r 1), none⟩,
    ⟨.bin .sub (.r 2) (.c (.int .i64 1)), none⟩,
    ⟨.mv (.r 3), none⟩] [] [] [(8, 4, none)])
  (.drop [15] []))
  (.block 2 (.loop ir_sbuf_Buffer_Findl0))))))
 (.seq (.reg [⟨.bin .add (.s 13) (.c (.int .i64 1)), none⟩,
   ⟨.mv (.r 0), none⟩] [] [] [(13, 1, none)])
 (.drop [7, 8, 15, 16] [(true, 1)]))))
def ir_sbuf_Buffer_Find : Vm.Fn := ⟨[0, 1, 4, 5, 6, 7, 8, 10, 11, 12, 14, 18, 19, 20, 21, 27, 33, 53, 59], 3, 0, [.slot 2, .slot 3, .slot 4],
 .seq (.seq (.reg [⟨.mv (.c (.int .u8 0)), none⟩,
   ⟨.mv (.c (.int .i64 0)), none⟩,
   ⟨.mv (.c (.bool false)), none⟩] [] [] [(2, 0, none), (3, 1, none), (4, 2, none)])
 (.drop [2, 3, 4] []))
 (.seq (.seq (.reg [⟨.mv (.s 0), none⟩,
   ⟨.eqn .ptr false (.r 0) (.c (.nilp)), none⟩] [] [] [(10, 1, none)])
 (.cond (.s 10) (.seq (.seq (.reg [⟨.mv (.c (.int .u8 0)), none⟩,
    ⟨.mv (.c (.int .i64 0)), none⟩,
    ⟨.mv (.c (.bool false)), none⟩] [] [] [(2, 0, none), (3, 1, none), (4, 2, none)])
  (.drop [0, 1, 10] []))
  (.ret))
  (.skip)))
 (.seq (.seq (.reg [⟨.lalloc 0 [.int .i64 0, .int .i64 0, .int .i64 0, .int .u64 0], none⟩] [(true, 0)] [] [(5, 0, some 1)])
 (.drop [10] []))
 (.seq (.reg [⟨.mv (.c (.int .i64 (-1))), none⟩] [] [] [(6, 0, none)])
 (.seq (.seq (.seq (.reg [⟨.mv (.s 0), none⟩,
   ⟨.nilck (.r 0), none⟩,
   ⟨.off 0 (.r 1), none⟩,
   ⟨.load 0 false 1 (.r 2), none⟩,
   ⟨.len 1 (.r 3), none⟩,
   ⟨.mv (.c (.int .i64 0)), none⟩] [] [] [(11, 3, none), (12, 4, none), (13, 5, none)])
 (.drop [0] []))
 (.block 0 (.loop ir_sbuf_Buffer_Findl1)))
 (.seq (.seq (.seq (.reg [⟨.mv (.s 6), none⟩,
   ⟨.bin .lss (.r 0) (.c (.int .i64 0)), none⟩] [] [] [(18, 1, none)])
 (.drop [6, 11, 12, 13, 14] []))
 (.cond (.s 18) (.seq (.seq (.reg [⟨.mv (.c (.int .u8 0)), none⟩,
    ⟨.mv (.c (.int .i64 0)), none⟩,
    ⟨.mv (.c (.bool false)), none⟩] [] [] [(2, 0, none), (3, 1, none), (4, 2, none)])
  (.drop [1, 5, 18] [(true, 0)]))
  (.ret))
  (.skip)))
 (.seq (.seq (.reg [⟨.off 3 (.s 5), none⟩,
   ⟨.load 0 false 1 (.r 0), none⟩,
   ⟨.mv (.s 1), none⟩,
   ⟨.off 1 (.s 5), none⟩,
   ⟨.load 0 false 1 (.r 3), none⟩,
   ⟨.bin .sub (.r 2) (.r 4), none⟩,
   ⟨.bin .mul (.c (.int .i64 8)) (.r 5), none⟩,
   ⟨.bin .shr (.r 1) (.r 6), none⟩,
   ⟨.i2i .u8 (.r 7), none⟩,
   ⟨.off 0 (.s 5), none⟩,
   ⟨.load 0 false 1 (.r 9), none⟩,
   ⟨.mv (.r 8), none⟩,
   ⟨.mv (.r 10), none⟩,
   ⟨.mv (.c (.bool true)), none⟩] [] [(1, 4), (1, 10), (4, 10)] [(2, 11, none), (3, 12, none), (4, 13, none)])
 (.drop [1, 5, 18] [(true, 0)]))
 (.ret)))))))⟩
/-- 14: (*undertow/sbuf.Buffer).Empty -/
def h14 : Vm.Hint := ⟨[0, 2], [], [], [[0], [0, 0, 0, 0, 0, 0, 0, 0, 0, 0, 0]], [([1], []), ([0], [])], []⟩
def ir_sbuf_Buffer_Empty : Vm.Fn := ⟨[0, 2], 0, 0, [.slot 1],
 .seq (.seq (.reg [⟨.mv (.c (.bool false)), none⟩] [] [] [(1, 0, none)])
 (.drop [1] []))
 (.seq (.seq (.reg [⟨.mv (.s 0), none⟩,
   ⟨.eqn .ptr false (.r 0) (.c (.nilp)), none⟩,
   ⟨.mv (.r 1), none⟩,
   ⟨.mv (.s 0), some (2, false)⟩,
   ⟨.nilck (.r 3), some (2, false)⟩,
   ⟨.off 0 (.r 4), some (2, false)⟩,
   ⟨.load 0 false 1 (.r 5), some (2, false)⟩,
   ⟨.len 1 (.r 6), some (2, false)⟩,
   ⟨.bin .eql (.r 7) (.c (.int .i64 0)), some (2, false)⟩,
   ⟨.pick (.r 2) (.c (.bool true)) (.r 8), none⟩,
   ⟨.mv (.r 9), none⟩] [] [] [(1, 10, none)])
 (.drop [0] []))
 (.ret))⟩
/-- 15: (*undertow/sbuf.Buffer).Ready -/
def h15 : Vm.Hint := ⟨[0, 2, 3, 4, 5, 7, 11, 12, 13, 14, 22], [5], [3], [[0], [0, 0], [0], [1], [0, 0, 0, 0, 0, 0], [0], [0, 0, 0, 1, 0, 0], [0, 0, 0, 0, 0], [0, 0, 1, 2, 0], [0, 0], [0, 0]], [([1], []), ([], []), ([0, 5], []), ([5], []), ([], []), ([], []), ([9], []), ([4], [(true, 0)]), ([3, 10], []), ([3, 10], []), ([0, 2, 6, 7, 8, 9], [(false, 0)])], []⟩
def ir_sbuf_Buffer_Readyl0 : C :=
 .seq (.reg [⟨.bin .lss (.s 8) (.s 7), none⟩] [] [] [(9, 0, none)])
 (.seq (.cond (.s 9) (.skip)
  (.exit 0))
 (.seq (.block 1 (.seq (.seq (.reg [⟨.mv (.s 8), none⟩,
    ⟨.iaS 3 (.s 6) (.s 8), none⟩,
    ⟨.load 0 true 3 (.r 1), none⟩,
    ⟨.lalloc 0 [.int .i64 0, .int .i64 0, .nils], none⟩,
    ⟨.mv (.r 0), none⟩,
    ⟨.store 0 3 (.r 3) (.r 2), none⟩] [(true, 0)] [] [(3, 4, none), (4, 3, some 1)])
  (.drop [9] []))
  (.seq (.seq (.reg [⟨.off 1 (.s 4), none⟩,
    ⟨.load 0 false 1 (.r 0), none⟩,
    ⟨.mv (.s 0), none⟩,
    ⟨.call .val n_sbuf_Buffer_least [(.r 2)], none⟩,
    ⟨.bin .eql (.r 1) (.r 3), none⟩] [] [(1, 3)] [(10, 4, none)])
  (.drop [4] [(true, 0)]))
  (.cond (.s 10) (.seq (.reg [⟨.mv (.s 2), none⟩,
     ⟨.mv (.s 3), none⟩,
     ⟨.lit 1 1 [[.int .i64 0]] [(0, (.r 1))], none⟩,
     ⟨.app 2 1 8 (.r 0) (.r 2), none⟩,
     ⟨.mv (.r 3), none⟩] [] [] [(2, 4, some 0)])
   (.drop [3, 10] []))
   (.skip)))))
 (.seq (.reg [⟨.bin .add (.s 8) (.c (.int .i64 1)), none⟩,
   ⟨.mv (.r 0), none⟩] [] [] [(8, 1, none)])
 (.drop [3, 10] []))))
def ir_sbuf_Buffer_Ready : Vm.Fn := ⟨[0, 2, 3, 4, 5, 7, 11, 12, 13, 14, 22], 1, 1, [.slot 1],
 .seq (.seq (.reg [⟨.mv (.c (.nils)), none⟩] [] [] [(1, 0, none)])
 (.drop [1] []))
 (.seq (.seq (.reg [⟨.mv (.s 0), none⟩,
   ⟨.eqn .ptr false (.r 0) (.c (.nilp)), none⟩] [] [] [(5, 1, none)])
 (.cond (.s 5) (.seq (.seq (.reg [⟨.mv (.c (.nils)), none⟩] [] [] [(1, 0, none)])
  (.drop [0, 5] []))
  (.ret))
  (.skip)))
 (.seq (.seq (.reg [⟨.onil 0, none⟩] [(false, 0)] [] [(2, 0, some 0)])
 (.drop [5] []))
 (.seq (.seq (.reg [⟨.mv (.s 0), none⟩,
   ⟨.nilck (.r 0), none⟩,
   ⟨.off 0 (.r 1), none⟩,
   ⟨.load 0 false 1 (.r 2), none⟩,
   ⟨.len 1 (.r 3), none⟩,
   ⟨.mv (.c (.int .i64 0)), none⟩] [] [] [(6, 3, none), (7, 4, none), (8, 5, none)])
 (.block 0 (.loop ir_sbuf_Buffer_Readyl0)))
 (.seq (.seq (.reg [⟨.mv (.s 2), none⟩,
   ⟨.mv (.r 0), none⟩] [] [] [(1, 1, none)])
 (.drop [0, 2, 6, 7, 8, 9] [(false, 0)]))
 (.ret)))))⟩
/-- 16: undertow/undertowref01.Overlap -/
def h16 : Vm.Hint := ⟨[0, 1, 2, 3, 8, 38], [], [], [[0], [0, 0, 0, 0, 0, 0, 0, 0, 0, 0, 0, 0, 0, 0, 0, 0, 0, 0, 0, 0, 0, 0, 0, 0, 0, 0, 0, 0, 0, 0], [0], [0, 0, 0, 0, 0, 0, 0, 0, 0, 0, 0, 0, 0]], [], []⟩
def ir_undertowref01_Overlap : Vm.Fn := ⟨[0, 1, 2, 3, 8, 38], 0, 0, [.slot 4],
 .seq (.reg [⟨.mv (.c (.bool false)), none⟩] [] [] [(4, 0, none)])
 (.seq (.seq (.reg [⟨.mv (.s 0), none⟩,
   ⟨.bin .lss (.r 0) (.c (.int .i64 0)), none⟩,
   ⟨.mv (.r 1), none⟩,
   ⟨.mv (.s 2), some (2, false)⟩,
   ⟨.bin .lss (.r 3) (.c (.int .i64 0)), some (2, false)⟩,
   ⟨.pick (.r 2) (.c (.bool true)) (.r 4), none⟩,
   ⟨.mv (.r 5), none⟩,
   ⟨.mv (.s 0), some (6, false)⟩,
   ⟨.bin .gtr (.r 7) (.c (.int .i64 1099511627776)), some (6, false)⟩,
   ⟨.pick (.r 6) (.c (.bool true)) (.r 8), none⟩,
   ⟨.mv (.r 9), none⟩,
   ⟨.mv (.s 2), some (10, false)⟩,
   ⟨.bin .gtr (.r 11) (.c (.int .i64 1099511627776)), some (10, false)⟩,
   ⟨.pick (.r 10) (.c (.bool true)) (.r 12), none⟩,
   ⟨.mv (.r 13), none⟩,
   ⟨.mv (.s 1), some (14, false)⟩,
   ⟨.bin .lss (.r 15) (.c (.int .i64 1)), some (14, false)⟩,
   ⟨.pick (.r 14) (.c (.bool true)) (.r 16), none⟩,
   ⟨.mv (.r 17), none⟩,
   ⟨.mv (.s 1), some (18, false)⟩,
   ⟨.bin .gtr (.r 19) (.c (.int .i64 8)), some (18, false)⟩,
   ⟨.pick (.r 18) (.c (.bool true)) (.r 20), none⟩,
   ⟨.mv (.r 21), none⟩,
   ⟨.mv (.s 3), some (22, false)⟩,
   ⟨.bin .lss (.r 23) (.c (.int .i64 1)), some (22, false)⟩,
   ⟨.pick (.r 22) (.c (.bool true)) (.r 24), none⟩,
   ⟨.mv (.r 25), none⟩,
   ⟨.mv (.s 3), some (26, false)⟩,
   ⟨.bin .gtr (.r 27) (.c (.int .i64 8)), some (26, false)⟩,
   ⟨.pick (.r 26) (.c (.bool true)) (.r 28), none⟩] [] [] [(5, 29, none)])
 (.cond (.s 5) (.seq (.reg [⟨.mv (.c (.bool false)), none⟩] [] [] [(4, 0, none)])
  (.ret))
  (.skip)))
 (.seq (.reg [⟨.mv (.s 0), none⟩,
   ⟨.mv (.s 2), none⟩,
   ⟨.mv (.s 3), none⟩,
   ⟨.bin .add (.r 1) (.r 2), none⟩,
   ⟨.bin .lss (.r 0) (.r 3), none⟩,
   ⟨.mv (.r 4), none⟩,
   ⟨.mv (.s 2), some (5, true)⟩,
   ⟨.mv (.s 0), some (5, true)⟩,
   ⟨.mv (.s 1), some (5, true)⟩,
   ⟨.bin .add (.r 7) (.r 8), some (5, true)⟩,
   ⟨.bin .lss (.r 6) (.r 9), some (5, true)⟩,
   ⟨.pick (.r 5) (.r 10) (.c (.bool false)), none⟩,
   ⟨.mv (.r 11), none⟩] [] [] [(4, 12, none)])
 (.ret)))⟩
/-- 17: undertow/undertowref01.SameBytes -/
def h17 : Vm.Hint := ⟨[0, 1, 4, 5, 10, 14, 25], [], [], [[0], [0, 0, 0, 0, 0], [0], [0], [0, 0, 0, 0], [0, 0, 0], [0, 0, 0, 0, 0, 0, 0, 0, 0], [0], [0]], [([2], []), ([], []), ([0, 1, 4], []), ([4], []), ([], []), ([6], []), ([5], []), ([0, 1, 3, 6], []), ([0, 1, 3, 5], [])], []⟩
def ir_undertowref01_SameBytesl0 : C :=
 .seq (.seq (.reg [⟨.mv (.s 3), none⟩,
   ⟨.mv (.s 0), none⟩,
   ⟨.len 1 (.r 1), none⟩,
   ⟨.bin .lss (.r 0) (.r 2), none⟩] [] [] [(5, 3, none)])
 (.cond (.s 5) (.skip)
  (.exit 0)))
 (.seq (.block 1 (.seq (.seq (.reg [⟨.mv (.s 0), none⟩,
    ⟨.mv (.s 3), none⟩,
    ⟨.iaS 1 (.r 0) (.r 1), none⟩,
    ⟨.load 0 false 1 (.r 2), none⟩,
    ⟨.mv (.s 1), none⟩,
    ⟨.mv (.s 3), none⟩,
    ⟨.iaS 1 (.r 4) (.r 5), none⟩,
    ⟨.load 0 false 1 (.r 6), none⟩,
    ⟨.bin .neq (.r 3) (.r 7), none⟩] [] [(2, 6), (2, 7), (3, 6), (3, 7)] [(6, 8, none)])
  (.drop [5] []))
  (.cond (.s 6) (.seq (.seq (.reg [⟨.mv (.c (.bool false)), none⟩] [] [] [(2, 0, none)])
   (.drop [0, 1, 3, 6] []))
   (.ret))
   (.skip))))
 (.seq (.reg [⟨.mv (.s 3), none⟩,
   ⟨.bin .add (.r 0) (.c (.int .i64 1)), none⟩,
   ⟨.mv (.r 1), none⟩] [] [] [(3, 2, none)])
 (.drop [6] [])))
def ir_undertowref01_SameBytes : Vm.Fn := ⟨[0, 1, 4, 5, 10, 14, 25], 0, 0, [.slot 2],
 .seq (.seq (.reg [⟨.mv (.c (.bool false)), none⟩] [] [] [(2, 0, none)])
 (.drop [2] []))
 (.seq (.seq (.reg [⟨.mv (.s 0), none⟩,
   ⟨.len 1 (.r 0), none⟩,
   ⟨.mv (.s 1), none⟩,
   ⟨.len 1 (.r 2), none⟩,
   ⟨.bin .neq (.r 1) (.r 3), none⟩] [] [] [(4, 4, none)])
 (.cond (.s 4) (.seq (.seq (.reg [⟨.mv (.c (.bool false)), none⟩] [] [] [(2, 0, none)])
  (.drop [0, 1, 4] []))
  (.ret))
  (.skip)))
 (.seq (.seq (.seq (.reg [⟨.mv (.c (.int .i64 0)), none⟩] [] [] [(3, 0, none)])
 (.drop [4] []))
 (.block 0 (.loop ir_undertowref01_SameBytesl0)))
 (.seq (.seq (.reg [⟨.mv (.c (.bool true)), none⟩] [] [] [(2, 0, none)])
 (.drop [0, 1, 3, 5] []))
 (.ret))))⟩
/-- 18: (*undertow/sbuf.Buffer).Fits -/
def h18 : Vm.Hint := ⟨[0, 1, 3, 4, 6, 13], [3], [], [[1, 0], [0, 0, 0, 0, 0, 0, 0], [0], [0, 0, 0, 0, 0, 0, 0, 0], [0, 0]], [([1, 3], []), ([], []), ([0, 2, 5], [(true, 0)]), ([0, 2, 5], [(true, 0)]), ([4], [])], []⟩
def ir_sbuf_Buffer_Fits : Vm.Fn := ⟨[0, 1, 3, 4, 6, 13], 1, 0, [.slot 3],
 .seq (.seq (.reg [⟨.lbox 0 4 (.s 1), none⟩,
   ⟨.mv (.c (.bool false)), none⟩] [(true, 0)] [] [(2, 0, some 1), (3, 1, none)])
 (.drop [1, 3] []))
 (.seq (.seq (.reg [⟨.mv (.s 0), none⟩,
   ⟨.eqn .ptr false (.r 0) (.c (.nilp)), none⟩,
   ⟨.mv (.r 1), none⟩,
   ⟨.load 0 true 4 (.s 2), some (2, false)⟩,
   ⟨.call .val n_sbuf_may [(.r 3)], some (2, false)⟩,
   ⟨.un .not (.r 4), some (2, false)⟩,
   ⟨.pick (.r 2) (.c (.bool true)) (.r 5), none⟩] [] [] [(5, 6, none)])
 (.cond (.s 5) (.seq (.seq (.reg [⟨.mv (.c (.bool false)), none⟩] [] [] [(3, 0, none)])
  (.drop [0, 2, 5] [(true, 0)]))
  (.ret))
  (.skip)))
 (.seq (.seq (.reg [⟨.mv (.s 0), none⟩,
   ⟨.load 0 true 4 (.s 2), none⟩,
   ⟨.call .val n_sbuf_Buffer_place [(.r 0), (.r 1)], none⟩,
   ⟨.mv (.r 2), none⟩,
   ⟨.ext (.r 3) 0, none⟩,
   ⟨.ext (.r 3) 1, none⟩,
   ⟨.mv (.r 4), none⟩,
   ⟨.mv (.r 5), none⟩] [] [] [(4, 7, none)])
 (.drop [0, 2, 5] [(true, 0)]))
 (.seq (.seq (.reg [⟨.mv (.s 4), none⟩,
   ⟨.mv (.r 0), none⟩] [] [] [(3, 1, none)])
 (.drop [4] []))
 (.ret))))⟩
/-- 19: (*undertow/undertowref13.Buffer).Put -/
def h19 : Vm.Hint := ⟨[0, 1, 3, 4, 5, 6, 7, 8, 11, 30, 40, 46, 53], [3, 5], [], [[1, 0], [0, 0, 0], [0], [0, 0, 0, 0, 0, 0, 0, 0], [0, 0, 0, 0, 0, 0, 2, 0], [0, 0, 0], [0], [0], [0, 0, 0, 0], [0, 0, 0], [0, 0, 0, 0, 0, 0, 0, 0], [0], [0, 0, 0, 0, 0, 0], [0], [0, 0, 0, 0, 0, 0, 0], [0], [0, 0, 0, 0, 0, 0, 1, 0, 0, 0, 0], [0]], [([1, 3], []), ([], []), ([0, 2, 8], [(true, 0)]), ([8], []), ([2], [(true, 0)]), ([], []), ([], []), ([], []), ([], []), ([10, 11], []), ([9], []), ([10], []), ([], []), ([0, 4, 5, 6, 7, 11], [(true, 1)]), ([5, 6, 7, 9], []), ([0, 4, 12], [(true, 1)]), ([0, 4, 12], [(true, 1)]), ([], [])], []⟩
def ir_undertowref13_Buffer_Putl0 : C :=
 .seq (.seq (.reg [⟨.mv (.s 7), none⟩,
   ⟨.mv (.s 5), none⟩,
   ⟨.len 1 (.r 1), none⟩,
   ⟨.bin .lss (.r 0) (.r 2), none⟩] [] [] [(9, 3, none)])
 (.cond (.s 9) (.skip)
  (.exit 0)))
 (.seq (.block 1 (.seq (.seq (.reg [⟨.mv (.s 5), none⟩,
    ⟨.mv (.s 7), none⟩,
    ⟨.iaS 1 (.r 0) (.r 1), none⟩,
    ⟨.load 0 false 1 (.r 2), none⟩,
    ⟨.iaS 5 (.r 3) (.c (.int .i64 0)), none⟩,
    ⟨.load 0 true 5 (.r 4), none⟩,
    ⟨.load 0 true 5 (.s 4), none⟩,
    ⟨.call .val n_undertowref13_together [(.r 5), (.r 6)], none⟩] [] [(2, 6), (3, 6), (4, 6), (5, 6)] [(10, 7, none)])
  (.drop [9] []))
  (.cond (.s 10) (.seq (.seq (.reg [⟨.mv (.c (.bool true)), none⟩] [] [] [(6, 0, none)])
   (.drop [10] []))
   (.seq (.reg [⟨.mv (.s 5), none⟩,
     ⟨.mv (.s 7), none⟩,
     ⟨.iaS 1 (.r 0) (.r 1), none⟩,
     ⟨.load 0 false 1 (.r 2), none⟩,
     ⟨.len 1 (.r 3), none⟩,
     ⟨.bin .gtr (.r 4) (.c (.int .i64 7)), none⟩] [] [] [(11, 5, none)])
   (.cond (.s 11) (.seq (.seq (.reg [⟨.mv (.c (.bool false)), none⟩] [] [] [(3, 0, none)])
    (.drop [0, 4, 5, 6, 7, 11] [(true, 1)]))
    (.ret))
    (.skip))))
   (.skip))))
 (.seq (.reg [⟨.mv (.s 7), none⟩,
   ⟨.bin .add (.r 0) (.c (.int .i64 1)), none⟩,
   ⟨.mv (.r 1), none⟩] [] [] [(7, 2, none)])
 (.drop [10, 11] [])))
def ir_undertowref13_Buffer_Put : Vm.Fn := ⟨[0, 1, 3, 4, 5, 6, 7, 8, 11, 30, 40, 46, 53], 2, 0, [.slot 3],
 .seq (.seq (.reg [⟨.lbox 0 4 (.s 1), none⟩,
   ⟨.mv (.c (.bool false)), none⟩] [(true, 0)] [] [(2, 0, some 1), (3, 1, none)])
 (.drop [1, 3] []))
 (.seq (.seq (.reg [⟨.load 0 true 4 (.s 2), none⟩,
   ⟨.call .val n_undertowref13_May [(.r 0)], none⟩,
   ⟨.un .not (.r 1), none⟩] [] [] [(8, 2, none)])
 (.cond (.s 8) (.seq (.seq (.reg [⟨.mv (.c (.bool false)), none⟩] [] [] [(3, 0, none)])
  (.drop [0, 2, 8] [(true, 0)]))
  (.ret))
  (.skip)))
 (.seq (.seq (.reg [⟨.off 3 (.s 2), none⟩,
   ⟨.load 0 false 1 (.r 0), none⟩,
   ⟨.off 2 (.s 2), none⟩,
   ⟨.load 0 false 1 (.r 2), none⟩,
   ⟨.bin .mul (.c (.int .i64 8)) (.r 3), none⟩,
   ⟨.call .val n_undertowref01_Zext [(.r 1), (.r 4)], none⟩,
   ⟨.off 3 (.s 2), none⟩,
   ⟨.store 0 1 (.r 6) (.r 5), none⟩] [] [] [])
 (.drop [8] []))
 (.seq (.seq (.reg [⟨.load 0 true 4 (.s 2), none⟩,
   ⟨.mv (.s 0), none⟩,
   ⟨.nilck (.r 1), none⟩,
   ⟨.off 1 (.r 2), none⟩,
   ⟨.load 0 false 1 (.r 3), none⟩,
   ⟨.build [.int .i64 0, .int .i64 0, .int .i64 0, .int .u64 0, .int .i64 0] [(0, 4, (.r 0)), (4, 1, (.r 4))], none⟩,
   ⟨.lalloc 1 [.int .i64 0, .int .i64 0, .int .i64 0, .int .u64 0, .int .i64 0], none⟩,
   ⟨.store 0 5 (.r 6) (.r 5), none⟩] [(true, 1)] [(0, 4), (0, 6), (4, 6)] [(4, 6, some 3)])
 (.drop [2] [(true, 0)]))
 (.seq (.reg [⟨.mv (.s 0), none⟩,
   ⟨.call .val n_undertowref13_Buffer_Entries [(.r 0)], none⟩,
   ⟨.mv (.r 1), none⟩] [] [] [(5, 2, none)])
 (.seq (.reg [⟨.mv (.c (.bool false)), none⟩] [] [] [(6, 0, none)])
 (.seq (.seq (.reg [⟨.mv (.c (.int .i64 0)), none⟩] [] [] [(7, 0, none)])
 (.block 0 (.loop ir_undertowref13_Buffer_Putl0)))
 (.seq (.seq (.seq (.reg [⟨.mv (.s 6), none⟩,
   ⟨.un .not (.r 0), none⟩,
   ⟨.mv (.r 1), none⟩,
   ⟨.mv (.s 5), some (2, true)⟩,
   ⟨.len 1 (.r 3), some (2, true)⟩,
   ⟨.bin .gtr (.r 4) (.c (.int .i64 3)), some (2, true)⟩,
   ⟨.pick (.r 2) (.r 5) (.c (.bool false)), none⟩] [] [] [(12, 6, none)])
 (.drop [5, 6, 7, 9] []))
 (.cond (.s 12) (.seq (.seq (.reg [⟨.mv (.c (.bool false)), none⟩] [] [] [(3, 0, none)])
  (.drop [0, 4, 12] [(true, 1)]))
  (.ret))
  (.skip)))
 (.seq (.seq (.reg [⟨.mv (.s 0), none⟩,
   ⟨.mv (.s 0), none⟩,
   ⟨.nilck (.r 1), none⟩,
   ⟨.off 0 (.r 2), none⟩,
   ⟨.load 0 false 1 (.r 3), none⟩,
   ⟨.load 0 true 5 (.s 4), none⟩,
   ⟨.lit 1 5 [[.int .i64 0, .int .i64 0, .int .i64 0, .int .u64 0, .int .i64 0]] [(0, (.r 5))], none⟩,
   ⟨.app 0 5 40 (.r 4) (.r 6), none⟩,
   ⟨.nilck (.r 0), none⟩,
   ⟨.off 0 (.r 8), none⟩,
   ⟨.store 0 1 (.r 9) (.r 7), none⟩] [] [(4, 5)] [])
 (.drop [0, 4, 12] [(true, 1)]))
 (.seq (.reg [⟨.mv (.c (.bool true)), none⟩] [] [] [(3, 0, none)])
 (.ret))))))))))⟩
/-- 20: (*undertow/undertowref13.Buffer).Barrier -/
def h20 : Vm.Hint := ⟨[0, 2, 9, 24], [], [], [[0], [0, 0, 0, 0, 0, 0, 0], [0, 0, 0], [0, 0, 0, 0, 0, 0, 0, 0, 0, 0, 0, 0, 0], [0, 0, 0, 0, 0, 0, 0, 0]], [([], []), ([], []), ([3], []), ([2], []), ([0, 1, 3], [])], []⟩
def ir_undertowref13_Buffer_Barrierl0 : C :=
 .seq (.seq (.reg [⟨.mv (.s 1), none⟩,
   ⟨.mv (.s 0), none⟩,
   ⟨.nilck (.r 1), none⟩,
   ⟨.off 0 (.r 2), none⟩,
   ⟨.load 0 false 1 (.r 3), none⟩,
   ⟨.len 1 (.r 4), none⟩,
   ⟨.bin .lss (.r 0) (.r 5), none⟩] [] [] [(2, 6, none)])
 (.cond (.s 2) (.skip)
  (.exit 0)))
 (.seq (.block 1 (.seq (.seq (.reg [⟨.mv (.s 0), none⟩,
    ⟨.nilck (.r 0), none⟩,
    ⟨.off 0 (.r 1), none⟩,
    ⟨.load 0 false 1 (.r 2), none⟩,
    ⟨.mv (.s 1), none⟩,
    ⟨.iaS 5 (.r 3) (.r 4), none⟩,
    ⟨.off 4 (.r 5), none⟩,
    ⟨.load 0 false 1 (.r 6), none⟩,
    ⟨.mv (.s 0), none⟩,
    ⟨.nilck (.r 8), none⟩,
    ⟨.off 1 (.r 9), none⟩,
    ⟨.load 0 false 1 (.r 10), none⟩,
    ⟨.bin .eql (.r 7) (.r 11), none⟩] [] [(3, 11), (5, 11), (7, 11)] [(3, 12, none)])
  (.drop [2] []))
  (.cond (.s 3) (.seq (.seq (.reg [⟨.mv (.s 0), none⟩,
     ⟨.nilck (.r 0), none⟩,
     ⟨.off 1 (.r 1), none⟩,
     ⟨.load 0 false 1 (.r 2), none⟩,
     ⟨.bin .add (.r 3) (.c (.int .i64 1)), none⟩,
     ⟨.nilck (.r 0), none⟩,
     ⟨.off 1 (.r 5), none⟩,
     ⟨.store 0 1 (.r 6) (.r 4), none⟩] [] [] [])
   (.drop [0, 1, 3] []))
   (.ret))
   (.skip))))
 (.seq (.reg [⟨.mv (.s 1), none⟩,
   ⟨.bin .add (.r 0) (.c (.int .i64 1)), none⟩,
   ⟨.mv (.r 1), none⟩] [] [] [(1, 2, none)])
 (.drop [3] [])))
def ir_undertowref13_Buffer_Barrier : Vm.Fn := ⟨[0, 2, 9, 24], 0, 0, [],
 .seq (.reg [⟨.mv (.c (.int .i64 0)), none⟩] [] [] [(1, 0, none)])
 (.block 0 (.loop ir_undertowref13_Buffer_Barrierl0))⟩
/-- 21: undertow/undertowref12.SameWrites -/
def h21 : Vm.Hint := ⟨[0, 1, 4, 5, 10, 14, 25], [], [], [[0], [0, 0, 0, 0, 0], [0], [0], [0, 0, 0, 0], [0, 0, 0], [0, 0, 0, 0, 0, 0, 0, 0, 0], [0], [0]], [([2], []), ([], []), ([0, 1, 4], []), ([4], []), ([], []), ([6], []), ([5], []), ([0, 1, 3, 6], []), ([0, 1, 3, 5], [])], []⟩
def ir_undertowref12_SameWritesl0 : C :=
 .seq (.seq (.reg [⟨.mv (.s 3), none⟩,
   ⟨.mv (.s 0), none⟩,
   ⟨.len 1 (.r 1), none⟩,
   ⟨.bin .lss (.r 0) (.r 2), none⟩] [] [] [(5, 3, none)])
 (.cond (.s 5) (.skip)
  (.exit 0)))
 (.seq (.block 1 (.seq (.seq (.reg [⟨.mv (.s 0), none⟩,
    ⟨.mv (.s 3), none⟩,
    ⟨.iaS 4 (.r 0) (.r 1), none⟩,
    ⟨.load 0 true 4 (.r 2), none⟩,
    ⟨.mv (.s 1), none⟩,
    ⟨.mv (.s 3), none⟩,
    ⟨.iaS 4 (.r 4) (.r 5), none⟩,
    ⟨.load 0 true 4 (.r 6), none⟩,
    ⟨.eqa true [.int, .int, .int, .int] (.r 3) (.r 7), none⟩] [] [(2, 6), (2, 7), (3, 6), (3, 7)] [(6, 8, none)])
  (.drop [5] []))
  (.cond (.s 6) (.seq (.seq (.reg [⟨.mv (.c (.bool false)), none⟩] [] [] [(2, 0, none)])
   (.drop [0, 1, 3, 6] []))
   (.ret))
   (.skip))))
 (.seq (.reg [⟨.mv (.s 3), none⟩,
   ⟨.bin .add (.r 0) (.c (.int .i64 1)), none⟩,
   ⟨.mv (.r 1), none⟩] [] [] [(3, 2, none)])
 (.drop [6] [])))
def ir_undertowref12_SameWrites : Vm.Fn := ⟨[0, 1, 4, 5, 10, 14, 25], 0, 0, [.slot 2],
 .seq (.seq (.reg [⟨.mv (.c (.bool false)), none⟩] [] [] [(2, 0, none)])
 (.drop [2] []))
 (.seq (.seq (.reg [⟨.mv (.s 0), none⟩,
   ⟨.len 1 (.r 0), none⟩,
   ⟨.mv (.s 1), none⟩,
   ⟨.len 1 (.r 2), none⟩,
   ⟨.bin .neq (.r 1) (.r 3), none⟩] [] [] [(4, 4, none)])
 (.cond (.s 4) (.seq (.seq (.reg [⟨.mv (.c (.bool false)), none⟩] [] [] [(2, 0, none)])
  (.drop [0, 1, 4] []))
  (.ret))
  (.skip)))
 (.seq (.seq (.seq (.reg [⟨.mv (.c (.int .i64 0)), none⟩] [] [] [(3, 0, none)])
 (.drop [4] []))
 (.block 0 (.loop ir_undertowref12_SameWritesl0)))
 (.seq (.seq (.reg [⟨.mv (.c (.bool true)), none⟩] [] [] [(2, 0, none)])
 (.drop [0, 1, 3, 5] []))
 (.ret))))⟩
/-- 22: (*undertow/undertowref13.Buffer).Drain -/
def h22 : Vm.Hint := ⟨[0, 1, 4, 5, 6, 7, 8, 9, 10, 11, 17, 30, 44, 55], [8], [], [[0], [0, 0, 0], [0], [0], [0, 0, 0, 0], [0, 0, 0], [0, 0, 0, 0, 0, 0, 0, 0, 0, 0], [0, 0], [0], [0, 0, 0, 0, 0, 0, 0, 1, 0], [0], [0], [0], [0, 0, 0, 0, 0, 0, 0], [0, 0, 0], [0, 0, 0, 0, 0, 0, 0, 0, 0], [0, 0, 0, 0, 0, 0, 0, 0, 0, 1, 2, 0], [0, 0, 0, 0, 0, 0, 0, 0, 1, 0, 0], [0, 0, 0, 0, 0], [0, 0]], [([2], []), ([], []), ([], []), ([], []), ([], []), ([], []), ([10], []), ([3, 4, 5, 10], []), ([0, 1, 11], []), ([1, 11], []), ([], []), ([], []), ([], []), ([], []), ([], []), ([12], []), ([13], []), ([13], []), ([0, 6, 8, 9, 12], [(true, 0)]), ([7], [])], []⟩
def ir_undertowref13_Buffer_Drainl0 : C :=
 .seq (.seq (.reg [⟨.mv (.s 5), none⟩,
   ⟨.mv (.s 3), none⟩,
   ⟨.len 1 (.r 1), none⟩,
   ⟨.bin .lss (.r 0) (.r 2), none⟩] [] [] [(10, 3, none)])
 (.cond (.s 10) (.skip)
  (.exit 0)))
 (.seq (.block 1 (.seq (.reg [⟨.mv (.s 4), none⟩,
    ⟨.mv (.r 0), none⟩,
    ⟨.mv (.s 3), some (1, false)⟩,
    ⟨.mv (.s 5), some (1, false)⟩,
    ⟨.iaS 1 (.r 2) (.r 3), some (1, false)⟩,
    ⟨.load 0 false 1 (.r 4), some (1, false)⟩,
    ⟨.mv (.s 1), some (1, false)⟩,
    ⟨.bin .eql (.r 5) (.r 6), some (1, false)⟩,
    ⟨.pick (.r 1) (.c (.bool true)) (.r 7), none⟩,
    ⟨.mv (.r 8), none⟩] [] [] [(4, 9, none)])
  (.drop [10] [])))
 (.reg [⟨.mv (.s 5), none⟩,
   ⟨.bin .add (.r 0) (.c (.int .i64 1)), none⟩,
   ⟨.mv (.r 1), none⟩] [] [] [(5, 2, none)]))
def ir_undertowref13_Buffer_Drainl1 : C :=
 .seq (.seq (.reg [⟨.mv (.s 9), none⟩,
   ⟨.mv (.s 0), none⟩,
   ⟨.nilck (.r 1), none⟩,
   ⟨.off 0 (.r 2), none⟩,
   ⟨.load 0 false 1 (.r 3), none⟩,
   ⟨.len 1 (.r 4), none⟩,
   ⟨.bin .lss (.r 0) (.r 5), none⟩] [] [] [(12, 6, none)])
 (.cond (.s 12) (.skip)
  (.exit 2)))
 (.seq (.block 3 (.seq (.seq (.reg [⟨.load 0 true 5 (.s 6), none⟩,
    ⟨.mv (.s 0), none⟩,
    ⟨.nilck (.r 1), none⟩,
    ⟨.off 0 (.r 2), none⟩,
    ⟨.load 0 false 1 (.r 3), none⟩,
    ⟨.mv (.s 9), none⟩,
    ⟨.iaS 5 (.r 4) (.r 5), none⟩,
    ⟨.load 0 true 5 (.r 6), none⟩,
    ⟨.call .val n_undertowref13_together [(.r 0), (.r 7)], none⟩] [] [(0, 4), (0, 6), (0, 7)] [(13, 8, none)])
  (.drop [12] []))
  (.cond (.s 13) (.seq (.reg [⟨.mv (.s 7), none⟩,
     ⟨.mv (.s 0), none⟩,
     ⟨.nilck (.r 1), none⟩,
     ⟨.off 0 (.r 2), none⟩,
     ⟨.load 0 false 1 (.r 3), none⟩,
     ⟨.mv (.s 9), none⟩,
     ⟨.iaS 5 (.r 4) (.r 5), none⟩,
     ⟨.off 0 (.r 6), none⟩,
     ⟨.load 0 true 4 (.r 7), none⟩,
     ⟨.lit 1 4 [[.int .i64 0, .int .i64 0, .int .i64 0, .int .u64 0]] [(0, (.r 8))], none⟩,
     ⟨.app 2 4 32 (.r 0) (.r 9), none⟩,
     ⟨.mv (.r 10), none⟩] [] [] [(7, 11, none)])
   (.drop [13] []))
   (.seq (.reg [⟨.mv (.s 8), none⟩,
     ⟨.mv (.s 0), none⟩,
     ⟨.nilck (.r 1), none⟩,
     ⟨.off 0 (.r 2), none⟩,
     ⟨.load 0 false 1 (.r 3), none⟩,
     ⟨.mv (.s 9), none⟩,
     ⟨.iaS 5 (.r 4) (.r 5), none⟩,
     ⟨.load 0 true 5 (.r 6), none⟩,
     ⟨.lit 1 5 [[.int .i64 0, .int .i64 0, .int .i64 0, .int .u64 0, .int .i64 0]] [(0, (.r 7))], none⟩,
     ⟨.app 0 5 40 (.r 0) (.r 8), none⟩,
     ⟨.mv (.r 9), none⟩] [] [] [(8, 10, none)])
   (.drop [13] [])))))
 (.reg [⟨.mv (.s 9), none⟩,
   ⟨.bin .add (.r 0) (.c (.int .i64 1)), none⟩,
   ⟨.mv (.r 1), none⟩] [] [] [(9, 2, none)]))
def ir_undertowref13_Buffer_Drain : Vm.Fn := ⟨[0, 1, 4, 5, 6, 7, 8, 9, 10, 11, 17, 30, 44, 55], 1, 0, [.slot 2],
 .seq (.seq (.reg [⟨.mv (.c (.nils)), none⟩] [] [] [(2, 0, none)])
 (.drop [2] []))
 (.seq (.reg [⟨.mv (.s 0), none⟩,
   ⟨.call .val n_undertowref13_Buffer_Ready [(.r 0)], none⟩,
   ⟨.mv (.r 1), none⟩] [] [] [(3, 2, none)])
 (.seq (.reg [⟨.mv (.c (.bool false)), none⟩] [] [] [(4, 0, none)])
 (.seq (.seq (.reg [⟨.mv (.c (.int .i64 0)), none⟩] [] [] [(5, 0, none)])
 (.block 0 (.loop ir_undertowref13_Buffer_Drainl0)))
 (.seq (.seq (.seq (.reg [⟨.mv (.s 4), none⟩,
   ⟨.un .not (.r 0), none⟩] [] [] [(11, 1, none)])
 (.drop [3, 4, 5, 10] []))
 (.cond (.s 11) (.seq (.seq (.reg [⟨.mv (.c (.nils)), none⟩] [] [] [(2, 0, none)])
  (.drop [0, 1, 11] []))
  (.ret))
  (.skip)))
 (.seq (.seq (.reg [⟨.mv (.s 0), none⟩,
   ⟨.call .val n_undertowref13_Buffer_Entries [(.r 0)], none⟩,
   ⟨.mv (.s 1), none⟩,
   ⟨.iaS 1 (.r 1) (.r 2), none⟩,
   ⟨.load 0 false 1 (.r 3), none⟩,
   ⟨.iaS 5 (.r 4) (.c (.int .i64 0)), none⟩,
   ⟨.load 0 true 5 (.r 5), none⟩,
   ⟨.lalloc 0 [.int .i64 0, .int .i64 0, .int .i64 0, .int .u64 0, .int .i64 0], none⟩,
   ⟨.store 0 5 (.r 7) (.r 6), none⟩] [(true, 0)] [] [(6, 7, some 1)])
 (.drop [1, 11] []))
 (.seq (.reg [⟨.mv (.c (.nils)), none⟩] [] [] [(7, 0, none)])
 (.seq (.reg [⟨.mv (.c (.nils)), none⟩] [] [] [(8, 0, none)])
 (.seq (.seq (.reg [⟨.mv (.c (.int .i64 0)), none⟩] [] [] [(9, 0, none)])
 (.block 2 (.loop ir_undertowref13_Buffer_Drainl1)))
 (.seq (.seq (.reg [⟨.mv (.s 0), none⟩,
   ⟨.mv (.s 8), none⟩,
   ⟨.nilck (.r 0), none⟩,
   ⟨.off 0 (.r 2), none⟩,
   ⟨.store 0 1 (.r 3) (.r 1), none⟩] [] [] [])
 (.drop [0, 6, 8, 9, 12] [(true, 0)]))
 (.seq (.seq (.reg [⟨.mv (.s 7), none⟩,
   ⟨.mv (.r 0), none⟩] [] [] [(2, 1, none)])
 (.drop [7] []))
 (.ret)))))))))))⟩
/-- 23: (*undertow/undertowref13.Buffer).Find -/
def h23 : Vm.Hint := ⟨[0, 1, 4, 5, 6, 7, 8, 16, 40], [8], [], [[0, 0, 0], [0, 0, 0, 0, 0, 0, 0], [0, 0], [0, 0, 0], [0, 0, 0, 0, 0, 0, 0, 0, 1, 0], [0, 0, 0, 0, 0, 0, 0, 0, 0, 0, 0, 0, 0, 0], [0, 0, 0, 0, 0, 0, 0, 0, 0, 0, 0, 0, 0, 0, 0], [0, 0, 0]], [([2, 3, 4], []), ([], []), ([], []), ([6, 8], [(true, 0)]), ([7], []), ([], []), ([0, 1, 5, 6, 8], [(true, 0)]), ([0, 1, 5, 7], [])], []⟩
def ir_undertowref13_Buffer_Findl0 : C :=
 .seq (.seq (.reg [⟨.mv (.s 5), none⟩,
   ⟨.bin .geq (.r 0) (.c (.int .i64 0)), none⟩] [] [] [(7, 1, none)])
 (.cond (.s 7) (.skip)
  (.exit 0)))
 (.seq (.block 1 (.seq (.seq (.reg [⟨.mv (.s 0), none⟩,
    ⟨.nilck (.r 0), none⟩,
    ⟨.off 0 (.r 1), none⟩,
    ⟨.load 0 false 1 (.r 2), none⟩,
    ⟨.mv (.s 5), none⟩,
    ⟨.iaS 5 (.r 3) (.r 4), none⟩,
    ⟨.off 0 (.r 5), none⟩,
    ⟨.load 0 true 4 (.r 6), none⟩,
    ⟨.lalloc 0 [.int .i64 0, .int .i64 0, .int .i64 0, .int .u64 0], none⟩,
    ⟨.store 0 4 (.r 8) (.r 7), none⟩] [(true, 0)] [] [(6, 8, some 1)])
  (.drop [7] []))
  (.seq (.reg [⟨.mv (.s 1), none⟩,
    ⟨.off 1 (.s 6), none⟩,
    ⟨.load 0 false 1 (.r 1), none⟩,
    ⟨.bin .geq (.r 0) (.r 2), none⟩,
    ⟨.mv (.r 3), none⟩,
    ⟨.mv (.s 1), some (4, true)⟩,
    ⟨.off 1 (.s 6), some (4, true)⟩,
    ⟨.load 0 false 1 (.r 6), some (4, true)⟩,
    ⟨.off 2 (.s 6), some (4, true)⟩,
    ⟨.load 0 false 1 (.r 8), some (4, true)⟩,
    ⟨.bin .add (.r 7) (.r 9), some (4, true)⟩,
    ⟨.bin .sub (.r 10) (.c (.int .i64 1)), some (4, true)⟩,
    ⟨.bin .leq (.r 5) (.r 11), some (4, true)⟩,
    ⟨.pick (.r 4) (.r 12) (.c (.bool false)), none⟩] [] [] [(8, 13, none)])
  (.cond (.s 8) (.seq (.seq (.reg [⟨.off 3 (.s 6), none⟩,
     ⟨.load 0 false 1 (.r 0), none⟩,
     ⟨.mv (.s 1), none⟩,
     ⟨.off 1 (.s 6), none⟩,
     ⟨.load 0 false 1 (.r 3), none⟩,
     ⟨.bin .sub (.r 2) (.r 4), none⟩,
     ⟨.bin .mul (.c (.int .i64 8)) (.r 5), none⟩,
     ⟨.i2i .u64 (.r 6), none⟩,
     ⟨.bin .shr (.r 1) (.r 7), none⟩,
     ⟨.i2i .u8 (.r 8), none⟩,
     ⟨.off 0 (.s 6), none⟩,
     ⟨.load 0 false 1 (.r 10), none⟩,
     ⟨.mv (.r 9), none⟩,
     ⟨.mv (.r 11), none⟩,
     ⟨.mv (.c (.bool true)), none⟩] [] [(1, 4), (1, 11), (4, 11)] [(2, 12, none), (3, 13, none), (4, 14, none)])
   (.drop [0, 1, 5, 6, 8] [(true, 0)]))
   (.ret))
   (.skip)))))
 (.seq (.reg [⟨.mv (.s 5), none⟩,
   ⟨.bin .sub (.r 0) (.c (.int .i64 1)), none⟩,
   ⟨.mv (.r 1), none⟩] [] [] [(5, 2, none)])
 (.drop [6, 8] [(true, 0)])))
def ir_undertowref13_Buffer_Find : Vm.Fn := ⟨[0, 1, 4, 5, 6, 7, 8, 16, 40], 1, 0, [.slot 2, .slot 3, .slot 4],
 .seq (.seq (.reg [⟨.mv (.c (.int .u8 0)), none⟩,
   ⟨.mv (.c (.int .i64 0)), none⟩,
   ⟨.mv (.c (.bool false)), none⟩] [] [] [(2, 0, none), (3, 1, none), (4, 2, none)])
 (.drop [2, 3, 4] []))
 (.seq (.seq (.reg [⟨.mv (.s 0), none⟩,
   ⟨.nilck (.r 0), none⟩,
   ⟨.off 0 (.r 1), none⟩,
   ⟨.load 0 false 1 (.r 2), none⟩,
   ⟨.len 1 (.r 3), none⟩,
   ⟨.bin .sub (.r 4) (.c (.int .i64 1)), none⟩,
   ⟨.mv (.r 5), none⟩] [] [] [(5, 6, none)])
 (.block 0 (.loop ir_undertowref13_Buffer_Findl0)))
 (.seq (.seq (.reg [⟨.mv (.c (.int .u8 0)), none⟩,
   ⟨.mv (.c (.int .i64 0)), none⟩,
   ⟨.mv (.c (.bool false)), none⟩] [] [] [(2, 0, none), (3, 1, none), (4, 2, none)])
 (.drop [0, 1, 5, 7] []))
 (.ret)))⟩
/-- 24: (*undertow/sbuf.Buffer).Overlaps -/
def h24 : Vm.Hint := ⟨[0, 1, 2, 6, 8, 10, 12, 13, 14, 15, 18, 19, 20, 21, 30], [10], [], [[0], [0, 0, 0, 0], [0], [0, 0, 0], [0, 0, 0], [0], [0, 0, 1, 0], [0, 0, 0, 0, 0, 0, 0], [0], [0, 0], [0, 0], [0]], [([3], []), ([0], []), ([], []), ([9], []), ([4], []), ([], []), ([13], []), ([5], [(true, 0)]), ([1, 2, 6, 7, 8, 10, 11, 12, 14], []), ([14], []), ([10, 11, 12, 13], []), ([1, 2, 6, 7, 8, 9], [])], []⟩
def ir_sbuf_Buffer_Overlapsl0 : C :=
 .seq (.reg [⟨.bin .lss (.s 12) (.s 11), none⟩] [] [] [(13, 0, none)])
 (.seq (.cond (.s 13) (.skip)
  (.exit 2))
 (.seq (.block 3 (.seq (.seq (.reg [⟨.iaS 4 (.s 10) (.s 12), none⟩,
    ⟨.load 0 true 4 (.r 0), none⟩,
    ⟨.lalloc 0 [.int .i64 0, .int .i64 0, .int .i64 0, .int .u64 0], none⟩,
    ⟨.store 0 4 (.r 2) (.r 1), none⟩] [(true, 0)] [] [(5, 2, some 1)])
  (.drop [13] []))
  (.seq (.seq (.reg [⟨.off 1 (.s 5), none⟩,
    ⟨.load 0 false 1 (.r 0), none⟩,
    ⟨.off 2 (.s 5), none⟩,
    ⟨.load 0 false 1 (.r 2), none⟩,
    ⟨.mv (.s 1), none⟩,
    ⟨.mv (.s 2), none⟩,
    ⟨.call .val n_word_Overlap [(.r 1), (.r 3), (.r 4), (.r 5)], none⟩] [] [] [(14, 6, none)])
  (.drop [5] [(true, 0)]))
  (.cond (.s 14) (.seq (.seq (.reg [⟨.mv (.c (.bool true)), none⟩] [] [] [(3, 0, none)])
   (.drop [1, 2, 6, 7, 8, 10, 11, 12, 14] []))
   (.ret))
   (.skip)))))
 (.seq (.reg [⟨.bin .add (.s 12) (.c (.int .i64 1)), none⟩,
   ⟨.mv (.r 0), none⟩] [] [] [(12, 1, none)])
 (.drop [14] []))))
def ir_sbuf_Buffer_Overlapsl1 : C :=
 .seq (.reg [⟨.bin .lss (.s 8) (.s 7), none⟩] [] [] [(9, 0, none)])
 (.seq (.cond (.s 9) (.skip)
  (.exit 0))
 (.seq (.block 1 (.seq (.seq (.reg [⟨.iaS 1 (.s 6) (.s 8), none⟩,
    ⟨.load 0 false 1 (.r 0), none⟩,
    ⟨.mv (.r 1), none⟩] [] [] [(4, 2, none)])
  (.drop [9] []))
  (.seq (.seq (.reg [⟨.mv (.s 4), none⟩,
    ⟨.len 1 (.r 0), none⟩,
    ⟨.mv (.c (.int .i64 0)), none⟩] [] [] [(10, 0, none), (11, 1, none), (12, 2, none)])
  (.drop [4] []))
  (.block 2 (.loop ir_sbuf_Buffer_Overlapsl0)))))
 (.seq (.reg [⟨.bin .add (.s 8) (.c (.int .i64 1)), none⟩,
   ⟨.mv (.r 0), none⟩] [] [] [(8, 1, none)])
 (.drop [10, 11, 12, 13] []))))
def ir_sbuf_Buffer_Overlaps : Vm.Fn := ⟨[0, 1, 2, 6, 8, 10, 12, 13, 14, 15, 18, 19, 20, 21, 30], 1, 0, [.slot 3],
 .seq (.seq (.reg [⟨.mv (.c (.bool false)), none⟩] [] [] [(3, 0, none)])
 (.drop [3] []))
 (.seq (.seq (.seq (.reg [⟨.mv (.s 0), none⟩,
   ⟨.call .val n_sbuf_Buffer_Entries [(.r 0)], none⟩,
   ⟨.len 1 (.r 1), none⟩,
   ⟨.mv (.c (.int .i64 0)), none⟩] [] [] [(6, 1, none), (7, 2, none), (8, 3, none)])
 (.drop [0] []))
 (.block 0 (.loop ir_sbuf_Buffer_Overlapsl1)))
 (.seq (.seq (.reg [⟨.mv (.c (.bool false)), none⟩] [] [] [(3, 0, none)])
 (.drop [1, 2, 6, 7, 8, 9] []))
 (.ret)))⟩
/-- 25: (*undertow/undertowref13.Buffer).Overlaps -/
def h25 : Vm.Hint := ⟨[0, 1, 2, 6, 7, 14, 37], [], [], [[0], [0], [0, 0, 0, 0, 0, 0, 0], [0, 0, 0], [0, 0, 0, 0, 0, 0, 0, 0, 0, 0, 0, 0, 0, 0, 0, 0, 0, 0, 0, 0, 0], [0], [0]], [([3], []), ([], []), ([], []), ([6], []), ([5], []), ([0, 1, 2, 4, 6], []), ([0, 1, 2, 4, 5], [])], []⟩
def ir_undertowref13_Buffer_Overlapsl0 : C :=
 .seq (.seq (.reg [⟨.mv (.s 4), none⟩,
   ⟨.mv (.s 0), none⟩,
   ⟨.nilck (.r 1), none⟩,
   ⟨.off 0 (.r 2), none⟩,
   ⟨.load 0 false 1 (.r 3), none⟩,
   ⟨.len 1 (.r 4), none⟩,
   ⟨.bin .lss (.r 0) (.r 5), none⟩] [] [] [(5, 6, none)])
 (.cond (.s 5) (.skip)
  (.exit 0)))
 (.seq (.block 1 (.seq (.seq (.reg [⟨.mv (.s 0), none⟩,
    ⟨.nilck (.r 0), none⟩,
    ⟨.off 0 (.r 1), none⟩,
    ⟨.load 0 false 1 (.r 2), none⟩,
    ⟨.mv (.s 4), none⟩,
    ⟨.iaS 5 (.r 3) (.r 4), none⟩,
    ⟨.off 0 (.r 5), none⟩,
    ⟨.off 1 (.r 6), none⟩,
    ⟨.load 0 false 1 (.r 7), none⟩,
    ⟨.mv (.s 0), none⟩,
    ⟨.nilck (.r 9), none⟩,
    ⟨.off 0 (.r 10), none⟩,
    ⟨.load 0 false 1 (.r 11), none⟩,
    ⟨.mv (.s 4), none⟩,
    ⟨.iaS 5 (.r 12) (.r 13), none⟩,
    ⟨.off 0 (.r 14), none⟩,
    ⟨.off 2 (.r 15), none⟩,
    ⟨.load 0 false 1 (.r 16), none⟩,
    ⟨.mv (.s 1), none⟩,
    ⟨.mv (.s 2), none⟩,
    ⟨.call .val n_undertowref01_Overlap [(.r 8), (.r 17), (.r 18), (.r 19)], none⟩] [] [(3, 12), (3, 14), (3, 17), (5, 12), (5, 14), (5, 17), (8, 12), (8, 14), (8, 17)] [(6, 20, none)])
  (.drop [5] []))
  (.cond (.s 6) (.seq (.seq (.reg [⟨.mv (.c (.bool true)), none⟩] [] [] [(3, 0, none)])
   (.drop [0, 1, 2, 4, 6] []))
   (.ret))
   (.skip))))
 (.seq (.reg [⟨.mv (.s 4), none⟩,
   ⟨.bin .add (.r 0) (.c (.int .i64 1)), none⟩,
   ⟨.mv (.r 1), none⟩] [] [] [(4, 2, none)])
 (.drop [6] [])))
def ir_undertowref13_Buffer_Overlaps : Vm.Fn := ⟨[0, 1, 2, 6, 7, 14, 37], 0, 0, [.slot 3],
 .seq (.seq (.reg [⟨.mv (.c (.bool false)), none⟩] [] [] [(3, 0, none)])
 (.drop [3] []))
 (.seq (.seq (.reg [⟨.mv (.c (.int .i64 0)), none⟩] [] [] [(4, 0, none)])
 (.block 0 (.loop ir_undertowref13_Buffer_Overlapsl0)))
 (.seq (.seq (.reg [⟨.mv (.c (.bool false)), none⟩] [] [] [(3, 0, none)])
 (.drop [0, 1, 2, 4, 5] []))
 (.ret)))⟩
/-- 26: undertow/undertowlaw13.same -/
def h26 : Vm.Hint := ⟨[0, 1, 4, 5, 6, 7, 8, 9, 44, 48, 57, 77], [], [8], [[0], [0, 0, 0, 0, 0, 0], [0, 0, 0, 0, 0, 0, 0, 0, 0, 0, 0, 0, 0, 0, 0, 0, 0, 0, 0, 0, 0, 0, 0, 0, 0, 0, 0, 0, 0, 0, 0], [0], [0], [0, 0, 0, 0], [0, 0, 0], [1], [0], [0, 0, 0, 0, 0, 0, 0], [0, 0, 0], [0, 0, 0, 0, 0, 0, 0, 0, 0, 1, 2, 0], [0, 0, 0, 0, 0, 0, 0], [0], [0]], [([2], []), ([], []), ([0, 1], []), ([3, 4, 8], []), ([8], []), ([], []), ([11], []), ([9], []), ([], []), ([], []), ([], []), ([10], []), ([6, 7, 10], [(false, 0)]), ([3, 4, 5, 11], []), ([3, 4, 5, 9], [])], []⟩
def ir_undertowlaw13_samel0 : C :=
 .seq (.seq (.reg [⟨.mv (.s 7), none⟩,
   ⟨.mv (.s 4), none⟩,
   ⟨.mv (.s 5), none⟩,
   ⟨.iaS 1 (.r 1) (.r 2), none⟩,
   ⟨.load 0 false 1 (.r 3), none⟩,
   ⟨.len 1 (.r 4), none⟩,
   ⟨.bin .lss (.r 0) (.r 5), none⟩] [] [] [(10, 6, none)])
 (.cond (.s 10) (.skip)
  (.exit 2)))
 (.seq (.block 3 (.seq (.reg [⟨.mv (.s 6), none⟩,
    ⟨.mv (.s 4), none⟩,
    ⟨.mv (.s 5), none⟩,
    ⟨.iaS 1 (.r 1) (.r 2), none⟩,
    ⟨.load 0 false 1 (.r 3), none⟩,
    ⟨.mv (.s 7), none⟩,
    ⟨.iaS 5 (.r 4) (.r 5), none⟩,
    ⟨.off 0 (.r 6), none⟩,
    ⟨.load 0 true 4 (.r 7), none⟩,
    ⟨.lit 1 4 [[.int .i64 0, .int .i64 0, .int .i64 0, .int .u64 0]] [(0, (.r 8))], none⟩,
    ⟨.app 2 4 32 (.r 0) (.r 9), none⟩,
    ⟨.mv (.r 10), none⟩] [] [] [(6, 11, some 0)])
  (.drop [10] [])))
 (.reg [⟨.mv (.s 7), none⟩,
   ⟨.bin .add (.r 0) (.c (.int .i64 1)), none⟩,
   ⟨.mv (.r 1), none⟩] [] [] [(7, 2, none)]))
def ir_undertowlaw13_samel1 : C :=
 .seq (.seq (.reg [⟨.mv (.s 5), none⟩,
   ⟨.mv (.s 3), none⟩,
   ⟨.len 1 (.r 1), none⟩,
   ⟨.bin .lss (.r 0) (.r 2), none⟩] [] [] [(9, 3, none)])
 (.cond (.s 9) (.skip)
  (.exit 0)))
 (.seq (.block 1 (.seq (.seq (.reg [⟨.onil 0, none⟩] [(false, 0)] [] [(6, 0, some 0)])
  (.drop [9] []))
  (.seq (.seq (.reg [⟨.mv (.c (.int .i64 0)), none⟩] [] [] [(7, 0, none)])
  (.block 2 (.loop ir_undertowlaw13_samel0)))
  (.seq (.seq (.reg [⟨.mv (.s 3), none⟩,
    ⟨.mv (.s 5), none⟩,
    ⟨.iaS 1 (.r 0) (.r 1), none⟩,
    ⟨.load 0 false 1 (.r 2), none⟩,
    ⟨.mv (.s 6), none⟩,
    ⟨.call .val n_undertowref12_SameWrites [(.r 3), (.r 4)], none⟩,
    ⟨.un .not (.r 5), none⟩] [] [] [(11, 6, none)])
  (.drop [6, 7, 10] [(false, 0)]))
  (.cond (.s 11) (.seq (.seq (.reg [⟨.mv (.c (.bool false)), none⟩] [] [] [(2, 0, none)])
   (.drop [3, 4, 5, 11] []))
   (.ret))
   (.skip))))))
 (.seq (.reg [⟨.mv (.s 5), none⟩,
   ⟨.bin .add (.r 0) (.c (.int .i64 1)), none⟩,
   ⟨.mv (.r 1), none⟩] [] [] [(5, 2, none)])
 (.drop [11] [])))
def ir_undertowlaw13_same : Vm.Fn := ⟨[0, 1, 4, 5, 6, 7, 8, 9, 44, 48, 57, 77], 0, 1, [.slot 2],
 .seq (.seq (.reg [⟨.mv (.c (.bool false)), none⟩] [] [] [(2, 0, none)])
 (.drop [2] []))
 (.seq (.reg [⟨.mv (.s 0), none⟩,
   ⟨.call .val n_sbuf_Buffer_Entries [(.r 0)], none⟩,
   ⟨.mv (.s 1), none⟩,
   ⟨.call .val n_undertowref13_Buffer_Entries [(.r 2)], none⟩,
   ⟨.mv (.r 1), none⟩,
   ⟨.mv (.r 3), none⟩] [] [] [(3, 4, none), (4, 5, none)])
 (.seq (.seq (.seq (.reg [⟨.mv (.s 3), none⟩,
   ⟨.len 1 (.r 0), none⟩,
   ⟨.mv (.s 4), none⟩,
   ⟨.len 1 (.r 2), none⟩,
   ⟨.bin .neq (.r 1) (.r 3), none⟩,
   ⟨.mv (.r 4), none⟩,
   ⟨.mv (.s 0), some (5, false)⟩,
   ⟨.call .val n_sbuf_Buffer_Empty [(.r 6)], some (5, false)⟩,
   ⟨.mv (.s 1), some (5, false)⟩,
   ⟨.nilck (.r 8), some (5, false)⟩,
   ⟨.off 0 (.r 9), some (5, false)⟩,
   ⟨.load 0 false 1 (.r 10), some (5, false)⟩,
   ⟨.len 1 (.r 11), some (5, false)⟩,
   ⟨.bin .eql (.r 12) (.c (.int .i64 0)), some (5, false)⟩,
   ⟨.eqb true (.r 7) (.r 13), some (5, false)⟩,
   ⟨.pick (.r 5) (.c (.bool true)) (.r 14), none⟩,
   ⟨.mv (.r 15), none⟩,
   ⟨.mv (.s 0), some (16, false)⟩,
   ⟨.call .val n_sbuf_Buffer_Elder [(.r 17)], some (16, false)⟩,
   ⟨.mv (.s 1), some (16, false)⟩,
   ⟨.call .val n_undertowref13_Buffer_Elder [(.r 19)], some (16, false)⟩,
   ⟨.eqb true (.r 18) (.r 20), some (16, false)⟩,
   ⟨.pick (.r 16) (.c (.bool true)) (.r 21), none⟩,
   ⟨.mv (.r 22), none⟩,
   ⟨.mv (.s 0), some (23, false)⟩,
   ⟨.call .val n_sbuf_Buffer_Ready [(.r 24)], some (23, false)⟩,
   ⟨.mv (.s 1), some (23, false)⟩,
   ⟨.call .val n_undertowref13_Buffer_Ready [(.r 26)], some (23, false)⟩,
   ⟨.call .val n_undertowref02_SameInts [(.r 25), (.r 27)], some (23, false)⟩,
   ⟨.un .not (.r 28), some (23, false)⟩,
   ⟨.pick (.r 23) (.c (.bool true)) (.r 29), none⟩] [] [(1, 3), (7, 11), (7, 12)] [(8, 30, none)])
 (.drop [0, 1] []))
 (.cond (.s 8) (.seq (.seq (.reg [⟨.mv (.c (.bool false)), none⟩] [] [] [(2, 0, none)])
  (.drop [3, 4, 8] []))
  (.ret))
  (.skip)))
 (.seq (.seq (.seq (.reg [⟨.mv (.c (.int .i64 0)), none⟩] [] [] [(5, 0, none)])
 (.drop [8] []))
 (.block 0 (.loop ir_undertowlaw13_samel1)))
 (.seq (.seq (.reg [⟨.mv (.c (.bool true)), none⟩] [] [] [(2, 0, none)])
 (.drop [3, 4, 5, 9] []))
 (.ret)))))⟩
/-- 27: (*undertow/sbuf.Buffer).Entries -/
def h27 : Vm.Hint := ⟨[0, 2, 3, 5, 7, 11, 12, 13, 14], [5], [3], [[0], [0, 0], [0], [1], [0, 0, 0, 0, 0, 0], [0], [0, 0, 1, 0], [0, 0, 0, 0, 1, 2, 0], [0, 0], [0, 0]], [([1], []), ([], []), ([0, 4], []), ([4], []), ([0], []), ([], []), ([8], []), ([3], [(true, 0)]), ([], []), ([2, 5, 6, 7, 8], [(false, 0)])], []⟩
def ir_sbuf_Buffer_Entriesl0 : C :=
 .seq (.reg [⟨.bin .lss (.s 7) (.s 6), none⟩] [] [] [(8, 0, none)])
 (.seq (.cond (.s 8) (.skip)
  (.exit 0))
 (.seq (.block 1 (.seq (.seq (.reg [⟨.iaS 3 (.s 5) (.s 7), none⟩,
    ⟨.load 0 true 3 (.r 0), none⟩,
    ⟨.lalloc 0 [.int .i64 0, .int .i64 0, .nils], none⟩,
    ⟨.store 0 3 (.r 2) (.r 1), none⟩] [(true, 0)] [] [(3, 2, some 1)])
  (.drop [8] []))
  (.seq (.reg [⟨.mv (.s 2), none⟩,
    ⟨.off 2 (.s 3), none⟩,
    ⟨.load 0 false 1 (.r 1), none⟩,
    ⟨.call .val n_slices_Clone_api_Write_api_Write [(.r 2)], none⟩,
    ⟨.lit 1 1 [[.nils]] [(0, (.r 3))], none⟩,
    ⟨.app 2 1 24 (.r 0) (.r 4), none⟩,
    ⟨.mv (.r 5), none⟩] [] [] [(2, 6, some 0)])
  (.drop [3] [(true, 0)]))))
 (.reg [⟨.bin .add (.s 7) (.c (.int .i64 1)), none⟩,
   ⟨.mv (.r 0), none⟩] [] [] [(7, 1, none)])))
def ir_sbuf_Buffer_Entries : Vm.Fn := ⟨[0, 2, 3, 5, 7, 11, 12, 13, 14], 1, 1, [.slot 1],
 .seq (.seq (.reg [⟨.mv (.c (.nils)), none⟩] [] [] [(1, 0, none)])
 (.drop [1] []))
 (.seq (.seq (.reg [⟨.mv (.s 0), none⟩,
   ⟨.eqn .ptr false (.r 0) (.c (.nilp)), none⟩] [] [] [(4, 1, none)])
 (.cond (.s 4) (.seq (.seq (.reg [⟨.mv (.c (.nils)), none⟩] [] [] [(1, 0, none)])
  (.drop [0, 4] []))
  (.ret))
  (.skip)))
 (.seq (.seq (.reg [⟨.onil 0, none⟩] [(false, 0)] [] [(2, 0, some 0)])
 (.drop [4] []))
 (.seq (.seq (.seq (.reg [⟨.mv (.s 0), none⟩,
   ⟨.nilck (.r 0), none⟩,
   ⟨.off 0 (.r 1), none⟩,
   ⟨.load 0 false 1 (.r 2), none⟩,
   ⟨.len 1 (.r 3), none⟩,
   ⟨.mv (.c (.int .i64 0)), none⟩] [] [] [(5, 3, none), (6, 4, none), (7, 5, none)])
 (.drop [0] []))
 (.block 0 (.loop ir_sbuf_Buffer_Entriesl0)))
 (.seq (.seq (.reg [⟨.mv (.s 2), none⟩,
   ⟨.mv (.r 0), none⟩] [] [] [(1, 1, none)])
 (.drop [2, 5, 6, 7, 8] [(false, 0)]))
 (.ret)))))⟩
/-- 28: (*undertow/sbuf.Buffer).Elder -/
def h28 : Vm.Hint := ⟨[0, 2], [], [], [[0], [0, 0, 0, 0, 0, 0, 0, 0, 0, 0, 0, 0]], [([1], []), ([0], [])], []⟩
def ir_sbuf_Buffer_Elder : Vm.Fn := ⟨[0, 2], 0, 0, [.slot 1],
 .seq (.seq (.reg [⟨.mv (.c (.bool false)), none⟩] [] [] [(1, 0, none)])
 (.drop [1] []))
 (.seq (.seq (.reg [⟨.mv (.s 0), none⟩,
   ⟨.eqn .ptr true (.r 0) (.c (.nilp)), none⟩,
   ⟨.mv (.r 1), none⟩,
   ⟨.mv (.s 0), some (2, true)⟩,
   ⟨.call .val n_sbuf_Buffer_least [(.r 3)], some (2, true)⟩,
   ⟨.mv (.s 0), some (2, true)⟩,
   ⟨.nilck (.r 5), some (2, true)⟩,
   ⟨.off 1 (.r 6), some (2, true)⟩,
   ⟨.load 0 false 1 (.r 7), some (2, true)⟩,
   ⟨.bin .lss (.r 4) (.r 8), some (2, true)⟩,
   ⟨.pick (.r 2) (.r 9) (.c (.bool false)), none⟩,
   ⟨.mv (.r 10), none⟩] [] [(4, 8)] [(1, 11, none)])
 (.drop [0] []))
 (.ret))⟩
/-- 29: undertow/undertowref02.SameInts -/
def h29 : Vm.Hint := ⟨[0, 1, 4, 5, 10, 14, 25], [], [], [[0], [0, 0, 0, 0, 0], [0], [0], [0, 0, 0, 0], [0, 0, 0], [0, 0, 0, 0, 0, 0, 0, 0, 0], [0], [0]], [([2], []), ([], []), ([0, 1, 4], []), ([4], []), ([], []), ([6], []), ([5], []), ([0, 1, 3, 6], []), ([0, 1, 3, 5], [])], []⟩
def ir_undertowref02_SameIntsl0 : C :=
 .seq (.seq (.reg [⟨.mv (.s 3), none⟩,
   ⟨.mv (.s 0), none⟩,
   ⟨.len 1 (.r 1), none⟩,
   ⟨.bin .lss (.r 0) (.r 2), none⟩] [] [] [(5, 3, none)])
 (.cond (.s 5) (.skip)
  (.exit 0)))
 (.seq (.block 1 (.seq (.seq (.reg [⟨.mv (.s 0), none⟩,
    ⟨.mv (.s 3), none⟩,
    ⟨.iaS 1 (.r 0) (.r 1), none⟩,
    ⟨.load 0 false 1 (.r 2), none⟩,
    ⟨.mv (.s 1), none⟩,
    ⟨.mv (.s 3), none⟩,
    ⟨.iaS 1 (.r 4) (.r 5), none⟩,
    ⟨.load 0 false 1 (.r 6), none⟩,
    ⟨.bin .neq (.r 3) (.r 7), none⟩] [] [(2, 6), (2, 7), (3, 6), (3, 7)] [(6, 8, none)])
  (.drop [5] []))
  (.cond (.s 6) (.seq (.seq (.reg [⟨.mv (.c (.bool false)), none⟩] [] [] [(2, 0, none)])
   (.drop [0, 1, 3, 6] []))
   (.ret))
   (.skip))))
 (.seq (.reg [⟨.mv (.s 3), none⟩,
   ⟨.bin .add (.r 0) (.c (.int .i64 1)), none⟩,
   ⟨.mv (.r 1), none⟩] [] [] [(3, 2, none)])
 (.drop [6] [])))
def ir_undertowref02_SameInts : Vm.Fn := ⟨[0, 1, 4, 5, 10, 14, 25], 0, 0, [.slot 2],
 .seq (.seq (.reg [⟨.mv (.c (.bool false)), none⟩] [] [] [(2, 0, none)])
 (.drop [2] []))
 (.seq (.seq (.reg [⟨.mv (.s 0), none⟩,
   ⟨.len 1 (.r 0), none⟩,
   ⟨.mv (.s 1), none⟩,
   ⟨.len 1 (.r 2), none⟩,
   ⟨.bin .neq (.r 1) (.r 3), none⟩] [] [] [(4, 4, none)])
 (.cond (.s 4) (.seq (.seq (.reg [⟨.mv (.c (.bool false)), none⟩] [] [] [(2, 0, none)])
  (.drop [0, 1, 4] []))
  (.ret))
  (.skip)))
 (.seq (.seq (.seq (.reg [⟨.mv (.c (.int .i64 0)), none⟩] [] [] [(3, 0, none)])
 (.drop [4] []))
 (.block 0 (.loop ir_undertowref02_SameIntsl0)))
 (.seq (.seq (.reg [⟨.mv (.c (.bool true)), none⟩] [] [] [(2, 0, none)])
 (.drop [0, 1, 3, 5] []))
 (.ret))))⟩
/-- 30: undertow/word.Zext -/
def h30 : Vm.Hint := ⟨[0, 1, 4, 5, 8], [], [], [[0], [0, 0, 0], [0], [0, 0, 0], [0, 0], [0, 0, 0, 0, 0, 0]], [], []⟩
def ir_word_Zext : Vm.Fn := ⟨[0, 1, 4, 5, 8], 0, 0, [.slot 2],
 .seq (.reg [⟨.mv (.c (.int .u64 0)), none⟩] [] [] [(2, 0, none)])
 (.seq (.block 0 (.seq (.reg [⟨.mv (.s 1), none⟩,
    ⟨.bin .lss (.r 0) (.c (.int .i64 1)), none⟩,
    ⟨.mv (.r 1), none⟩] [] [] [(3, 2, none)])
  (.cond (.s 3) (.seq (.reg [⟨.mv (.c (.int .u64 0)), none⟩] [] [] [(2, 0, none)])
   (.ret))
   (.seq (.reg [⟨.mv (.s 1), none⟩,
     ⟨.bin .geq (.r 0) (.c (.int .i64 64)), none⟩,
     ⟨.mv (.r 1), none⟩] [] [] [(4, 2, none)])
   (.cond (.s 4) (.seq (.reg [⟨.mv (.s 0), none⟩,
      ⟨.mv (.r 0), none⟩] [] [] [(2, 1, none)])
    (.ret))
    (.skip))))))
 (.seq (.reg [⟨.mv (.s 0), none⟩,
   ⟨.mv (.s 1), none⟩,
   ⟨.bin .shl (.c (.int .u64 1)) (.r 1), none⟩,
   ⟨.bin .sub (.r 2) (.c (.int .u64 1)), none⟩,
   ⟨.bin .and (.r 0) (.r 3), none⟩,
   ⟨.mv (.r 4), none⟩] [] [] [(2, 5, none)])
 (.ret)))⟩
/-- 31: (*undertow/sbuf.Buffer).place -/
def h31 : Vm.Hint := ⟨[0, 1, 3, 4, 5, 6, 7, 11, 12, 13, 14, 32], [3, 7], [], [[1, 0, 0], [0, 0, 0, 0, 0, 0], [0], [0, 0, 0, 2, 0, 0], [0, 0, 0, 0, 0, 0, 0, 0, 0, 0, 0, 0, 0, 0, 0], [0, 0, 0, 0, 0, 0, 0], [0, 0], [0, 0, 0, 0, 0, 0, 0, 0, 0, 0, 0, 0, 0]], [([1, 3, 4], []), ([], []), ([], []), ([10], []), ([], []), ([0, 2, 5, 6, 7, 8, 9, 11], [(true, 0), (true, 1)]), ([5, 6, 11], [(true, 1)]), ([0, 2, 7, 8, 9, 10], [(true, 0)])], []⟩
def ir_sbuf_Buffer_placel0 : C :=
 .seq (.reg [⟨.bin .lss (.s 9) (.s 8), none⟩] [] [] [(10, 0, none)])
 (.seq (.cond (.s 10) (.skip)
  (.exit 0))
 (.seq (.block 1 (.seq (.seq (.reg [⟨.mv (.s 9), none⟩,
    ⟨.iaS 3 (.s 7) (.s 9), none⟩,
    ⟨.load 0 true 3 (.r 1), none⟩,
    ⟨.lalloc 1 [.int .i64 0, .int .i64 0, .nils], none⟩,
    ⟨.mv (.r 0), none⟩,
    ⟨.store 0 3 (.r 3) (.r 2), none⟩] [(true, 1)] [] [(5, 4, none), (6, 3, some 3)])
  (.drop [10] []))
  (.seq (.reg [⟨.off 0 (.s 6), none⟩,
    ⟨.load 0 false 1 (.r 0), none⟩,
    ⟨.off 1 (.s 2), none⟩,
    ⟨.load 0 false 1 (.r 2), none⟩,
    ⟨.bin .quo (.r 3) (.c (.int .i64 8)), none⟩,
    ⟨.bin .eql (.r 1) (.r 4), none⟩,
    ⟨.mv (.r 5), none⟩,
    ⟨.off 1 (.s 6), some (6, true)⟩,
    ⟨.load 0 false 1 (.r 7), some (6, true)⟩,
    ⟨.mv (.s 0), some (6, true)⟩,
    ⟨.nilck (.r 9), some (6, true)⟩,
    ⟨.off 1 (.r 10), some (6, true)⟩,
    ⟨.load 0 false 1 (.r 11), some (6, true)⟩,
    ⟨.bin .eql (.r 8) (.r 12), some (6, true)⟩,
    ⟨.pick (.r 6) (.r 13) (.c (.bool false)), none⟩] [] [(1, 3), (8, 12)] [(11, 14, none)])
  (.cond (.s 11) (.seq (.seq (.reg [⟨.mv (.s 5), none⟩,
     ⟨.off 2 (.s 6), none⟩,
     ⟨.load 0 false 1 (.r 1), none⟩,
     ⟨.len 1 (.r 2), none⟩,
     ⟨.bin .lss (.r 3) (.c (.int .i64 8)), none⟩,
     ⟨.mv (.r 0), none⟩,
     ⟨.mv (.r 4), none⟩] [] [] [(3, 5, none), (4, 6, none)])
   (.drop [0, 2, 5, 6, 7, 8, 9, 11] [(true, 0), (true, 1)]))
   (.ret))
   (.skip)))))
 (.seq (.reg [⟨.bin .add (.s 9) (.c (.int .i64 1)), none⟩,
   ⟨.mv (.r 0), none⟩] [] [] [(9, 1, none)])
 (.drop [5, 6, 11] [(true, 1)]))))
def ir_sbuf_Buffer_place : Vm.Fn := ⟨[0, 1, 3, 4, 5, 6, 7, 11, 12, 13, 14, 32], 2, 0, [.slot 3, .slot 4],
 .seq (.seq (.reg [⟨.lbox 0 4 (.s 1), none⟩,
   ⟨.mv (.c (.int .i64 0)), none⟩,
   ⟨.mv (.c (.bool false)), none⟩] [(true, 0)] [] [(2, 0, some 1), (3, 1, none), (4, 2, none)])
 (.drop [1, 3, 4] []))
 (.seq (.seq (.reg [⟨.mv (.s 0), none⟩,
   ⟨.nilck (.r 0), none⟩,
   ⟨.off 0 (.r 1), none⟩,
   ⟨.load 0 false 1 (.r 2), none⟩,
   ⟨.len 1 (.r 3), none⟩,
   ⟨.mv (.c (.int .i64 0)), none⟩] [] [] [(7, 3, none), (8, 4, none), (9, 5, none)])
 (.block 0 (.loop ir_sbuf_Buffer_placel0)))
 (.seq (.seq (.reg [⟨.mv (.s 0), none⟩,
   ⟨.nilck (.r 0), none⟩,
   ⟨.off 0 (.r 1), none⟩,
   ⟨.load 0 false 1 (.r 2), none⟩,
   ⟨.len 1 (.r 3), none⟩,
   ⟨.mv (.s 0), none⟩,
   ⟨.nilck (.r 5), none⟩,
   ⟨.off 0 (.r 6), none⟩,
   ⟨.load 0 false 1 (.r 7), none⟩,
   ⟨.len 1 (.r 8), none⟩,
   ⟨.bin .lss (.r 9) (.c (.int .i64 4)), none⟩,
   ⟨.mv (.r 4), none⟩,
   ⟨.mv (.r 10), none⟩] [] [(3, 8), (3, 9), (4, 8), (4, 9)] [(3, 11, none), (4, 12, none)])
 (.drop [0, 2, 7, 8, 9, 10] [(true, 0)]))
 (.ret)))⟩
/-- 32: slices.ContainsFunc[[]undertow/sbuf.entry,undertow/sbuf.entry] -/
def h32 : Vm.Hint := ⟨[0, 1, 4], [], [], [[0], [0, 0, 0, 0, 0]], [([2], []), ([0, 1], [])], []⟩
def ir_slices_ContainsFunc_sbuf_entry_sbuf_entry : Vm.Fn := ⟨[0, 1, 4], 0, 0, [.slot 2],
 .seq (.seq (.reg [⟨.mv (.c (.bool false)), none⟩] [] [] [(2, 0, none)])
 (.drop [2] []))
 (.seq (.seq (.reg [⟨.mv (.s 0), none⟩,
   ⟨.mv (.s 1), none⟩,
   ⟨.call .val n_slices_IndexFunc_sbuf_entry_sbuf_entry [(.r 0), (.r 1)], none⟩,
   ⟨.bin .geq (.r 2) (.c (.int .i64 0)), none⟩,
   ⟨.mv (.r 3), none⟩] [] [] [(2, 4, none)])
 (.drop [0, 1] []))
 (.ret))⟩
/-- 33: (*undertow/sbuf.Buffer).Barrier$1 -/
def h33 : Vm.Hint := ⟨[0, 1, 2, 3], [2], [], [[1, 0], [0, 0, 0, 0, 0, 0, 0, 0]], [([0, 3], []), ([2], [(true, 0)])], []⟩
def ir_sbuf_Buffer_Barrier_1 : Vm.Fn := ⟨[0, 1, 2, 3], 1, 0, [.slot 3],
 .seq (.seq (.reg [⟨.lbox 0 3 (.s 0), none⟩,
   ⟨.mv (.c (.bool false)), none⟩] [(true, 0)] [] [(2, 0, some 1), (3, 1, none)])
 (.drop [0, 3] []))
 (.seq (.seq (.reg [⟨.off 1 (.s 2), none⟩,
   ⟨.load 0 false 1 (.r 0), none⟩,
   ⟨.load 0 false 1 (.s 1), none⟩,
   ⟨.nilck (.r 2), none⟩,
   ⟨.off 1 (.r 3), none⟩,
   ⟨.load 0 false 1 (.r 4), none⟩,
   ⟨.bin .eql (.r 1) (.r 5), none⟩,
   ⟨.mv (.r 6), none⟩] [] [(1, 2), (1, 5)] [(3, 7, none)])
 (.drop [2] [(true, 0)]))
 (.ret))⟩
/-- 34: slices.Contains[[]int,int] -/
def h34 : Vm.Hint := ⟨[0, 1, 4], [], [], [[0], [0, 0, 0, 0, 0]], [([2], []), ([0, 1], [])], []⟩
def ir_slices_Contains_int_int : Vm.Fn := ⟨[0, 1, 4], 0, 0, [.slot 2],
 .seq (.seq (.reg [⟨.mv (.c (.bool false)), none⟩] [] [] [(2, 0, none)])
 (.drop [2] []))
 (.seq (.seq (.reg [⟨.mv (.s 0), none⟩,
   ⟨.mv (.s 1), none⟩,
   ⟨.call .val n_slices_Index_int_int [(.r 0), (.r 1)], none⟩,
   ⟨.bin .geq (.r 2) (.c (.int .i64 0)), none⟩,
   ⟨.mv (.r 3), none⟩] [] [] [(2, 4, none)])
 (.drop [0, 1] []))
 (.ret))⟩
/-- 35: slices.Delete[[]undertow/sbuf.entry,undertow/sbuf.entry] -/
def h35 : Vm.Hint := ⟨[0, 1, 2, 6, 7, 16], [], [0], [[0], [0, 0, 0, 0, 0, 0], [0, 0, 0], [0, 0], [0, 0, 0], [0, 0, 0, 0, 0, 0, 2, 0], [0, 0, 0, 0, 0, 0], [0, 0]], [([3], []), ([], []), ([], []), ([0, 1, 2, 5], []), ([5], []), ([1, 2], []), ([4], []), ([0], [(false, 0)])], []⟩
def ir_slices_Delete_sbuf_entry_sbuf_entry : Vm.Fn := ⟨[0, 1, 2, 6, 7, 16], 0, 1, [.slot 3],
 .seq (.seq (.reg [⟨.mv (.c (.nils)), none⟩] [] [] [(3, 0, none)])
 (.drop [3] []))
 (.seq (.reg [⟨.mv (.s 0), none⟩,
   ⟨.mv (.s 1), none⟩,
   ⟨.mv (.s 2), none⟩,
   ⟨.mv (.s 0), none⟩,
   ⟨.len 1 (.r 3), none⟩,
   ⟨.slc 3 (.r 0) (some (.r 1)) (some (.r 2)) (some (.r 4)), none⟩] [] [] [])
 (.seq (.seq (.reg [⟨.mv (.s 1), none⟩,
   ⟨.mv (.s 2), none⟩,
   ⟨.bin .eql (.r 0) (.r 1), none⟩] [] [] [(5, 2, none)])
 (.cond (.s 5) (.seq (.seq (.reg [⟨.mv (.s 0), none⟩,
    ⟨.mv (.r 0), none⟩] [] [] [(3, 1, none)])
  (.drop [0, 1, 2, 5] []))
  (.ret))
  (.skip)))
 (.seq (.seq (.reg [⟨.mv (.s 0), none⟩,
   ⟨.len 1 (.r 0), none⟩,
   ⟨.mv (.r 1), none⟩] [] [] [(4, 2, none)])
 (.drop [5] []))
 (.seq (.seq (.reg [⟨.mv (.s 0), none⟩,
   ⟨.mv (.s 1), none⟩,
   ⟨.slc 3 (.r 0) none (some (.r 1)) none, none⟩,
   ⟨.mv (.s 0), none⟩,
   ⟨.mv (.s 2), none⟩,
   ⟨.slc 3 (.r 3) (some (.r 4)) none none, none⟩,
   ⟨.app 2 3 40 (.r 2) (.r 5), none⟩,
   ⟨.mv (.r 6), none⟩] [] [(2, 5)] [(0, 7, some 0)])
 (.drop [1, 2] []))
 (.seq (.seq (.reg [⟨.mv (.s 0), none⟩,
   ⟨.mv (.s 0), none⟩,
   ⟨.len 1 (.r 1), none⟩,
   ⟨.mv (.s 4), none⟩,
   ⟨.slc 3 (.r 0) (some (.r 2)) (some (.r 3)) none, none⟩,
   ⟨.clr [.int .i64 0, .int .i64 0, .nils] (.r 4), none⟩] [] [] [])
 (.drop [4] []))
 (.seq (.seq (.reg [⟨.mv (.s 0), none⟩,
   ⟨.mv (.r 0), none⟩] [] [] [(3, 1, none)])
 (.drop [0] [(false, 0)]))
 (.ret)))))))⟩
/-- 36: (*undertow/sbuf.Buffer).least -/
def h36 : Vm.Hint := ⟨[0, 2, 3, 5, 13, 14, 15, 16], [5], [], [[0], [0, 0, 0, 0, 0], [0, 0, 0, 0, 0, 0], [0], [0, 0, 1, 0], [0, 0, 0, 0, 0], [0, 0], [0, 0]], [([1], []), ([], []), ([0], []), ([], []), ([7], []), ([3], [(true, 0)]), ([], []), ([2, 4, 5, 6, 7], [])], []⟩
def ir_sbuf_Buffer_leastl0 : C :=
 .seq (.reg [⟨.bin .lss (.s 6) (.s 5), none⟩] [] [] [(7, 0, none)])
 (.seq (.cond (.s 7) (.skip)
  (.exit 0))
 (.seq (.block 1 (.seq (.seq (.reg [⟨.iaS 3 (.s 4) (.s 6), none⟩,
    ⟨.load 0 true 3 (.r 0), none⟩,
    ⟨.lalloc 0 [.int .i64 0, .int .i64 0, .nils], none⟩,
    ⟨.store 0 3 (.r 2) (.r 1), none⟩] [(true, 0)] [] [(3, 2, some 1)])
  (.drop [7] []))
  (.seq (.reg [⟨.mv (.s 2), none⟩,
    ⟨.off 1 (.s 3), none⟩,
    ⟨.load 0 false 1 (.r 1), none⟩,
    ⟨.min [(.r 0), (.r 2)], none⟩,
    ⟨.mv (.r 3), none⟩] [] [] [(2, 4, none)])
  (.drop [3] [(true, 0)]))))
 (.reg [⟨.bin .add (.s 6) (.c (.int .i64 1)), none⟩,
   ⟨.mv (.r 0), none⟩] [] [] [(6, 1, none)])))
def ir_sbuf_Buffer_least : Vm.Fn := ⟨[0, 2, 3, 5, 13, 14, 15, 16], 1, 0, [.slot 1],
 .seq (.seq (.reg [⟨.mv (.c (.int .i64 0)), none⟩] [] [] [(1, 0, none)])
 (.drop [1] []))
 (.seq (.reg [⟨.mv (.s 0), none⟩,
   ⟨.nilck (.r 0), none⟩,
   ⟨.off 1 (.r 1), none⟩,
   ⟨.load 0 false 1 (.r 2), none⟩,
   ⟨.mv (.r 3), none⟩] [] [] [(2, 4, none)])
 (.seq (.seq (.seq (.reg [⟨.mv (.s 0), none⟩,
   ⟨.nilck (.r 0), none⟩,
   ⟨.off 0 (.r 1), none⟩,
   ⟨.load 0 false 1 (.r 2), none⟩,
   ⟨.len 1 (.r 3), none⟩,
   ⟨.mv (.c (.int .i64 0)), none⟩] [] [] [(4, 3, none), (5, 4, none), (6, 5, none)])
 (.drop [0] []))
 (.block 0 (.loop ir_sbuf_Buffer_leastl0)))
 (.seq (.seq (.reg [⟨.mv (.s 2), none⟩,
   ⟨.mv (.r 0), none⟩] [] [] [(1, 1, none)])
 (.drop [2, 4, 5, 6, 7] []))
 (.ret))))⟩
/-- 37: undertow/sbuf.may -/
def h37 : Vm.Hint := ⟨[0, 1, 2], [1], [], [[1, 0], [0, 0, 0, 0, 0, 0, 0, 0, 0, 0, 0, 0, 0, 0, 0, 0]], [([0, 2], []), ([1], [(true, 0)])], []⟩
def ir_sbuf_may : Vm.Fn := ⟨[0, 1, 2], 1, 0, [.slot 2],
 .seq (.seq (.reg [⟨.lbox 0 4 (.s 0), none⟩,
   ⟨.mv (.c (.bool false)), none⟩] [(true, 0)] [] [(1, 0, some 1), (2, 1, none)])
 (.drop [0, 2] []))
 (.seq (.seq (.reg [⟨.off 0 (.s 1), none⟩,
   ⟨.load 0 false 1 (.r 0), none⟩,
   ⟨.bin .geq (.r 1) (.c (.int .i64 0)), none⟩,
   ⟨.mv (.r 2), none⟩,
   ⟨.off 1 (.s 1), some (3, true)⟩,
   ⟨.load 0 false 1 (.r 4), some (3, true)⟩,
   ⟨.off 2 (.s 1), some (3, true)⟩,
   ⟨.load 0 false 1 (.r 6), some (3, true)⟩,
   ⟨.call .val n_word_Aligned [(.r 5), (.r 7)], some (3, true)⟩,
   ⟨.pick (.r 3) (.r 8) (.c (.bool false)), none⟩,
   ⟨.mv (.r 9), none⟩,
   ⟨.off 1 (.s 1), some (10, true)⟩,
   ⟨.load 0 false 1 (.r 11), some (10, true)⟩,
   ⟨.bin .leq (.r 12) (.c (.int .i64 1024)), some (10, true)⟩,
   ⟨.pick (.r 10) (.r 13) (.c (.bool false)), none⟩,
   ⟨.mv (.r 14), none⟩] [] [] [(2, 15, none)])
 (.drop [1] [(true, 0)]))
 (.ret))⟩
/-- 38: undertow/undertowref13.May -/
def h38 : Vm.Hint := ⟨[0, 1, 2], [1], [], [[1, 0], [0, 0, 0, 0, 0, 0, 0, 0, 0, 0, 0, 0, 0, 0, 0, 0]], [([0, 2], []), ([1], [(true, 0)])], []⟩
def ir_undertowref13_May : Vm.Fn := ⟨[0, 1, 2], 1, 0, [.slot 2],
 .seq (.seq (.reg [⟨.lbox 0 4 (.s 0), none⟩,
   ⟨.mv (.c (.bool false)), none⟩] [(true, 0)] [] [(1, 0, some 1), (2, 1, none)])
 (.drop [0, 2] []))
 (.seq (.seq (.reg [⟨.off 0 (.s 1), none⟩,
   ⟨.load 0 false 1 (.r 0), none⟩,
   ⟨.bin .geq (.r 1) (.c (.int .i64 0)), none⟩,
   ⟨.mv (.r 2), none⟩,
   ⟨.off 1 (.s 1), some (3, true)⟩,
   ⟨.load 0 false 1 (.r 4), some (3, true)⟩,
   ⟨.off 2 (.s 1), some (3, true)⟩,
   ⟨.load 0 false 1 (.r 6), some (3, true)⟩,
   ⟨.call .val n_undertowref01_Aligned [(.r 5), (.r 7)], some (3, true)⟩,
   ⟨.pick (.r 3) (.r 8) (.c (.bool false)), none⟩,
   ⟨.mv (.r 9), none⟩,
   ⟨.off 1 (.s 1), some (10, true)⟩,
   ⟨.load 0 false 1 (.r 11), some (10, true)⟩,
   ⟨.bin .leq (.r 12) (.c (.int .i64 1024)), some (10, true)⟩,
   ⟨.pick (.r 10) (.r 13) (.c (.bool false)), none⟩,
   ⟨.mv (.r 14), none⟩] [] [] [(2, 15, none)])
 (.drop [1] [(true, 0)]))
 (.ret))⟩
/-- 39: (*undertow/undertowref13.Buffer).Entries -/
def h39 : Vm.Hint := ⟨[0, 2, 3, 4, 5, 6, 13, 19, 35, 38], [], [], [[0], [0], [0], [0, 0, 0, 0, 0, 0, 0], [0, 0, 0], [0], [0], [0, 0, 0, 0], [0, 0, 0], [0, 0, 0, 0, 0, 0, 0, 0, 0, 0, 0, 0, 0, 0], [0, 0], [0, 0], [0, 0, 0, 0, 0, 0, 0, 0, 2, 1, 0, 0], [0, 0, 0, 0, 0, 0, 0, 0, 0, 0, 0, 0, 0, 1, 2, 0, 0], [0, 0]], [([1], []), ([], []), ([], []), ([], []), ([], []), ([6], []), ([], []), ([], []), ([8], []), ([7], []), ([8], []), ([5, 7], []), ([4, 9], []), ([4, 9], []), ([0, 2, 3, 6], [])], []⟩
def ir_undertowref13_Buffer_Entriesl0 : C :=
 .seq (.seq (.reg [⟨.mv (.s 5), none⟩,
   ⟨.mv (.s 2), none⟩,
   ⟨.len 1 (.r 1), none⟩,
   ⟨.bin .lss (.r 0) (.r 2), none⟩] [] [] [(7, 3, none)])
 (.cond (.s 7) (.skip)
  (.exit 2)))
 (.seq (.block 3 (.seq (.seq (.reg [⟨.mv (.s 2), none⟩,
    ⟨.mv (.s 5), none⟩,
    ⟨.iaS 1 (.r 0) (.r 1), none⟩,
    ⟨.load 0 false 1 (.r 2), none⟩,
    ⟨.iaS 5 (.r 3) (.c (.int .i64 0)), none⟩,
    ⟨.load 0 true 5 (.r 4), none⟩,
    ⟨.mv (.s 0), none⟩,
    ⟨.nilck (.r 6), none⟩,
    ⟨.off 0 (.r 7), none⟩,
    ⟨.load 0 false 1 (.r 8), none⟩,
    ⟨.mv (.s 3), none⟩,
    ⟨.iaS 5 (.r 9) (.r 10), none⟩,
    ⟨.load 0 true 5 (.r 11), none⟩,
    ⟨.call .val n_undertowref13_together [(.r 5), (.r 12)], none⟩] [] [(2, 9), (2, 11), (2, 12), (3, 9), (3, 11), (3, 12), (4, 9), (4, 11), (4, 12), (5, 9), (5, 11), (5, 12)] [(8, 13, none)])
  (.drop [7] []))
  (.cond (.s 8) (.seq (.reg [⟨.mv (.s 5), none⟩,
     ⟨.mv (.r 0), none⟩] [] [] [(4, 1, none)])
   (.drop [8] []))
   (.skip))))
 (.seq (.reg [⟨.mv (.s 5), none⟩,
   ⟨.bin .add (.r 0) (.c (.int .i64 1)), none⟩,
   ⟨.mv (.r 1), none⟩] [] [] [(5, 2, none)])
 (.drop [8] [])))
def ir_undertowref13_Buffer_Entriesl1 : C :=
 .seq (.seq (.reg [⟨.mv (.s 3), none⟩,
   ⟨.mv (.s 0), none⟩,
   ⟨.nilck (.r 1), none⟩,
   ⟨.off 0 (.r 2), none⟩,
   ⟨.load 0 false 1 (.r 3), none⟩,
   ⟨.len 1 (.r 4), none⟩,
   ⟨.bin .lss (.r 0) (.r 5), none⟩] [] [] [(6, 6, none)])
 (.cond (.s 6) (.skip)
  (.exit 0)))
 (.seq (.block 1 (.seq (.seq (.reg [⟨.mv (.c (.int .i64 (-1))), none⟩] [] [] [(4, 0, none)])
  (.drop [6] []))
  (.seq (.seq (.reg [⟨.mv (.c (.int .i64 0)), none⟩] [] [] [(5, 0, none)])
  (.block 2 (.loop ir_undertowref13_Buffer_Entriesl0)))
  (.seq (.seq (.reg [⟨.mv (.s 4), none⟩,
    ⟨.bin .lss (.r 0) (.c (.int .i64 0)), none⟩] [] [] [(9, 1, none)])
  (.drop [5, 7] []))
  (.cond (.s 9) (.seq (.reg [⟨.mv (.s 2), none⟩,
     ⟨.mv (.s 0), none⟩,
     ⟨.nilck (.r 1), none⟩,
     ⟨.off 0 (.r 2), none⟩,
     ⟨.load 0 false 1 (.r 3), none⟩,
     ⟨.mv (.s 3), none⟩,
     ⟨.iaS 5 (.r 4) (.r 5), none⟩,
     ⟨.load 0 true 5 (.r 6), none⟩,
     ⟨.lit 2 5 [[.int .i64 0, .int .i64 0, .int .i64 0, .int .u64 0, .int .i64 0]] [(0, (.r 7))], none⟩,
     ⟨.lit 1 1 [[.nils]] [(0, (.r 8))], none⟩,
     ⟨.app 0 1 24 (.r 0) (.r 9), none⟩,
     ⟨.mv (.r 10), none⟩] [] [] [(2, 11, none)])
   (.drop [4, 9] []))
   (.seq (.reg [⟨.mv (.s 2), none⟩,
     ⟨.mv (.s 4), none⟩,
     ⟨.mv (.s 2), none⟩,
     ⟨.mv (.s 4), none⟩,
     ⟨.iaS 1 (.r 2) (.r 3), none⟩,
     ⟨.load 0 false 1 (.r 4), none⟩,
     ⟨.mv (.s 0), none⟩,
     ⟨.nilck (.r 6), none⟩,
     ⟨.off 0 (.r 7), none⟩,
     ⟨.load 0 false 1 (.r 8), none⟩,
     ⟨.mv (.s 3), none⟩,
     ⟨.iaS 5 (.r 9) (.r 10), none⟩,
     ⟨.load 0 true 5 (.r 11), none⟩,
     ⟨.lit 1 5 [[.int .i64 0, .int .i64 0, .int .i64 0, .int .u64 0, .int .i64 0]] [(0, (.r 12))], none⟩,
     ⟨.app 2 5 40 (.r 5) (.r 13), none⟩,
     ⟨.iaS 1 (.r 0) (.r 1), none⟩,
     ⟨.store 0 1 (.r 15) (.r 14), none⟩] [] [(4, 9), (4, 11), (4, 12), (5, 9), (5, 11), (5, 12)] [])
   (.drop [4, 9] [])))))))
 (.reg [⟨.mv (.s 3), none⟩,
   ⟨.bin .add (.r 0) (.c (.int .i64 1)), none⟩,
   ⟨.mv (.r 1), none⟩] [] [] [(3, 2, none)]))
def ir_undertowref13_Buffer_Entries : Vm.Fn := ⟨[0, 2, 3, 4, 5, 6, 13, 19, 35, 38], 0, 0, [.slot 1],
 .seq (.seq (.reg [⟨.mv (.c (.nils)), none⟩] [] [] [(1, 0, none)])
 (.drop [1] []))
 (.seq (.reg [⟨.mv (.c (.nils)), none⟩] [] [] [(2, 0, none)])
 (.seq (.seq (.reg [⟨.mv (.c (.int .i64 0)), none⟩] [] [] [(3, 0, none)])
 (.block 0 (.loop ir_undertowref13_Buffer_Entriesl1)))
 (.seq (.seq (.reg [⟨.mv (.s 2), none⟩,
   ⟨.mv (.r 0), none⟩] [] [] [(1, 1, none)])
 (.drop [0, 2, 3, 6] []))
 (.ret))))⟩
/-- 40: undertow/undertowref13.together -/
def h40 : Vm.Hint := ⟨[0, 1, 2, 3, 4], [2, 3], [], [[1, 2, 0], [0, 0, 0, 0, 0, 0, 0, 0, 0, 0, 0, 0, 0, 0, 0, 0, 0]], [([0, 1, 4], []), ([2, 3], [(true, 0), (true, 1)])], []⟩
def ir_undertowref13_together : Vm.Fn := ⟨[0, 1, 2, 3, 4], 2, 0, [.slot 4],
 .seq (.seq (.reg [⟨.lbox 0 5 (.s 0), none⟩,
   ⟨.lbox 1 5 (.s 1), none⟩,
   ⟨.mv (.c (.bool false)), none⟩] [(true, 0), (true, 1)] [] [(2, 0, some 1), (3, 1, some 3), (4, 2, none)])
 (.drop [0, 1, 4] []))
 (.seq (.seq (.reg [⟨.off 4 (.s 2), none⟩,
   ⟨.load 0 false 1 (.r 0), none⟩,
   ⟨.off 4 (.s 3), none⟩,
   ⟨.load 0 false 1 (.r 2), none⟩,
   ⟨.bin .eql (.r 1) (.r 3), none⟩,
   ⟨.mv (.r 4), none⟩,
   ⟨.off 0 (.s 2), some (5, true)⟩,
   ⟨.off 1 (.r 6), some (5, true)⟩,
   ⟨.load 0 false 1 (.r 7), some (5, true)⟩,
   ⟨.bin .quo (.r 8) (.c (.int .i64 8)), some (5, true)⟩,
   ⟨.off 0 (.s 3), some (5, true)⟩,
   ⟨.off 1 (.r 10), some (5, true)⟩,
   ⟨.load 0 false 1 (.r 11), some (5, true)⟩,
   ⟨.bin .quo (.r 12) (.c (.int .i64 8)), some (5, true)⟩,
   ⟨.bin .eql (.r 9) (.r 13), some (5, true)⟩,
   ⟨.pick (.r 5) (.r 14) (.c (.bool false)), none⟩,
   ⟨.mv (.r 15), none⟩] [] [] [(4, 16, none)])
 (.drop [2, 3] [(true, 0), (true, 1)]))
 (.ret))⟩
/-- 41: (*undertow/undertowref13.Buffer).Ready -/
def h41 : Vm.Hint := ⟨[0, 2, 3, 4, 5, 6, 7, 13, 19, 40], [], [4], [[0], [0, 0, 0], [1], [0], [0, 0, 0, 0], [0, 0, 0], [0], [0], [0, 0, 0, 0], [0, 0, 0], [0, 0, 0, 0, 0, 0, 0, 0, 0, 0, 0, 0, 0, 0, 0, 0, 0, 0, 0], [0], [0, 0, 1, 2, 0], [0, 0]], [([1], []), ([0], []), ([], []), ([], []), ([], []), ([9], []), ([7], []), ([], []), ([], []), ([], []), ([8], []), ([5, 6, 8], []), ([9], []), ([2, 3, 4, 7], [(false, 0)])], []⟩
def ir_undertowref13_Buffer_Readyl0 : C :=
 .seq (.seq (.reg [⟨.mv (.s 6), none⟩,
   ⟨.mv (.s 2), none⟩,
   ⟨.len 1 (.r 1), none⟩,
   ⟨.bin .lss (.r 0) (.r 2), none⟩] [] [] [(8, 3, none)])
 (.cond (.s 8) (.skip)
  (.exit 2)))
 (.seq (.block 3 (.seq (.reg [⟨.mv (.s 5), none⟩,
    ⟨.mv (.r 0), none⟩,
    ⟨.mv (.s 2), some (1, true)⟩,
    ⟨.mv (.s 4), some (1, true)⟩,
    ⟨.iaS 1 (.r 2) (.r 3), some (1, true)⟩,
    ⟨.load 0 false 1 (.r 4), some (1, true)⟩,
    ⟨.iaS 5 (.r 5) (.c (.int .i64 0)), some (1, true)⟩,
    ⟨.off 4 (.r 6), some (1, true)⟩,
    ⟨.load 0 false 1 (.r 7), some (1, true)⟩,
    ⟨.mv (.s 2), some (1, true)⟩,
    ⟨.mv (.s 6), some (1, true)⟩,
    ⟨.iaS 1 (.r 9) (.r 10), some (1, true)⟩,
    ⟨.load 0 false 1 (.r 11), some (1, true)⟩,
    ⟨.iaS 5 (.r 12) (.c (.int .i64 0)), some (1, true)⟩,
    ⟨.off 4 (.r 13), some (1, true)⟩,
    ⟨.load 0 false 1 (.r 14), some (1, true)⟩,
    ⟨.bin .leq (.r 8) (.r 15), some (1, true)⟩,
    ⟨.pick (.r 1) (.r 16) (.c (.bool false)), none⟩,
    ⟨.mv (.r 17), none⟩] [] [(4, 11), (4, 12), (4, 13), (4, 15), (5, 11), (5, 12), (5, 13), (5, 15), (6, 11), (6, 12), (6, 13), (6, 15), (8, 11), (8, 12), (8, 13), (8, 15)] [(5, 18, none)])
  (.drop [8] [])))
 (.reg [⟨.mv (.s 6), none⟩,
   ⟨.bin .add (.r 0) (.c (.int .i64 1)), none⟩,
   ⟨.mv (.r 1), none⟩] [] [] [(6, 2, none)]))
def ir_undertowref13_Buffer_Readyl1 : C :=
 .seq (.seq (.reg [⟨.mv (.s 4), none⟩,
   ⟨.mv (.s 2), none⟩,
   ⟨.len 1 (.r 1), none⟩,
   ⟨.bin .lss (.r 0) (.r 2), none⟩] [] [] [(7, 3, none)])
 (.cond (.s 7) (.skip)
  (.exit 0)))
 (.seq (.block 1 (.seq (.seq (.reg [⟨.mv (.c (.bool true)), none⟩] [] [] [(5, 0, none)])
  (.drop [7] []))
  (.seq (.seq (.reg [⟨.mv (.c (.int .i64 0)), none⟩] [] [] [(6, 0, none)])
  (.block 2 (.loop ir_undertowref13_Buffer_Readyl0)))
  (.seq (.seq (.reg [⟨.mv (.s 5), none⟩] [] [] [(9, 0, none)])
  (.drop [5, 6, 8] []))
  (.cond (.s 9) (.seq (.reg [⟨.mv (.s 3), none⟩,
     ⟨.mv (.s 4), none⟩,
     ⟨.lit 1 1 [[.int .i64 0]] [(0, (.r 1))], none⟩,
     ⟨.app 2 1 8 (.r 0) (.r 2), none⟩,
     ⟨.mv (.r 3), none⟩] [] [] [(3, 4, some 0)])
   (.drop [9] []))
   (.skip))))))
 (.seq (.reg [⟨.mv (.s 4), none⟩,
   ⟨.bin .add (.r 0) (.c (.int .i64 1)), none⟩,
   ⟨.mv (.r 1), none⟩] [] [] [(4, 2, none)])
 (.drop [9] [])))
def ir_undertowref13_Buffer_Ready : Vm.Fn := ⟨[0, 2, 3, 4, 5, 6, 7, 13, 19, 40], 0, 1, [.slot 1],
 .seq (.seq (.reg [⟨.mv (.c (.nils)), none⟩] [] [] [(1, 0, none)])
 (.drop [1] []))
 (.seq (.seq (.reg [⟨.mv (.s 0), none⟩,
   ⟨.call .val n_undertowref13_Buffer_Entries [(.r 0)], none⟩,
   ⟨.mv (.r 1), none⟩] [] [] [(2, 2, none)])
 (.drop [0] []))
 (.seq (.reg [⟨.onil 0, none⟩] [(false, 0)] [] [(3, 0, some 0)])
 (.seq (.seq (.reg [⟨.mv (.c (.int .i64 0)), none⟩] [] [] [(4, 0, none)])
 (.block 0 (.loop ir_undertowref13_Buffer_Readyl1)))
 (.seq (.seq (.reg [⟨.mv (.s 3), none⟩,
   ⟨.mv (.r 0), none⟩] [] [] [(1, 1, none)])
 (.drop [2, 3, 4, 7] [(false, 0)]))
 (.ret)))))⟩
/-- 42: undertow/word.Overlap -/
def h42 : Vm.Hint := ⟨[0, 1, 2, 3, 8, 9, 10, 11, 21, 22, 23, 24, 26, 27, 28, 36], [], [], [[0], [0, 0, 0, 0, 0, 0, 0, 0, 0, 0], [0], [0], [0, 0], [0], [0, 0], [0, 0], [0], [0, 0], [0, 0, 0, 0, 0, 0, 0], [0], [0, 0], [0, 0], [0, 0]], [], []⟩
def ir_word_Overlapl0 : C :=
 .seq (.reg [⟨.bin .lss (.s 13) (.s 12), none⟩] [] [] [(14, 0, none)])
 (.seq (.cond (.s 14) (.skip)
  (.exit 2))
 (.seq (.block 3 (.seq (.reg [⟨.mv (.s 13), none⟩,
    ⟨.mv (.r 0), none⟩] [] [] [(7, 1, none)])
  (.seq (.reg [⟨.mv (.s 0), none⟩,
    ⟨.mv (.s 6), none⟩,
    ⟨.bin .add (.r 0) (.r 1), none⟩,
    ⟨.mv (.s 2), none⟩,
    ⟨.mv (.s 7), none⟩,
    ⟨.bin .add (.r 3) (.r 4), none⟩,
    ⟨.bin .eql (.r 2) (.r 5), none⟩] [] [] [(15, 6, none)])
  (.cond (.s 15) (.seq (.reg [⟨.mv (.c (.bool true)), none⟩] [] [] [(5, 0, none)])
   (.exit 0))
   (.skip)))))
 (.reg [⟨.bin .add (.s 13) (.c (.int .i64 1)), none⟩,
   ⟨.mv (.r 0), none⟩] [] [] [(13, 1, none)])))
def ir_word_Overlapl1 : C :=
 .seq (.reg [⟨.bin .lss (.s 10) (.s 9), none⟩] [] [] [(11, 0, none)])
 (.seq (.cond (.s 11) (.skip)
  (.exit 0))
 (.seq (.block 1 (.seq (.reg [⟨.mv (.s 10), none⟩,
    ⟨.mv (.r 0), none⟩] [] [] [(6, 1, none)])
  (.seq (.reg [⟨.mv (.s 3), none⟩,
    ⟨.mv (.c (.int .i64 0)), none⟩] [] [] [(12, 0, none), (13, 1, none)])
  (.block 2 (.loop ir_word_Overlapl0)))))
 (.reg [⟨.bin .add (.s 10) (.c (.int .i64 1)), none⟩,
   ⟨.mv (.r 0), none⟩] [] [] [(10, 1, none)])))
def ir_word_Overlap : Vm.Fn := ⟨[0, 1, 2, 3, 8, 9, 10, 11, 21, 22, 23, 24, 26, 27, 28, 36], 0, 0, [.slot 4],
 .seq (.reg [⟨.mv (.c (.bool false)), none⟩] [] [] [(4, 0, none)])
 (.seq (.seq (.reg [⟨.mv (.s 0), none⟩,
   ⟨.mv (.s 1), none⟩,
   ⟨.call .val n_word_isRange [(.r 0), (.r 1)], none⟩,
   ⟨.un .not (.r 2), none⟩,
   ⟨.mv (.r 3), none⟩,
   ⟨.mv (.s 2), some (4, false)⟩,
   ⟨.mv (.s 3), some (4, false)⟩,
   ⟨.call .val n_word_isRange [(.r 5), (.r 6)], some (4, false)⟩,
   ⟨.un .not (.r 7), some (4, false)⟩,
   ⟨.pick (.r 4) (.c (.bool true)) (.r 8), none⟩] [] [] [(8, 9, none)])
 (.cond (.s 8) (.seq (.reg [⟨.mv (.c (.bool false)), none⟩] [] [] [(4, 0, none)])
  (.ret))
  (.skip)))
 (.seq (.reg [⟨.mv (.c (.bool false)), none⟩] [] [] [(5, 0, none)])
 (.seq (.seq (.reg [⟨.mv (.s 1), none⟩,
   ⟨.mv (.c (.int .i64 0)), none⟩] [] [] [(9, 0, none), (10, 1, none)])
 (.block 0 (.loop ir_word_Overlapl1)))
 (.seq (.reg [⟨.mv (.s 5), none⟩,
   ⟨.mv (.r 0), none⟩] [] [] [(4, 1, none)])
 (.ret)))))⟩
/-- 43: (*undertow/undertowref13.Buffer).Elder -/
def h43 : Vm.Hint := ⟨[0, 2, 3, 10, 25], [], [], [[0], [0], [0, 0, 0, 0, 0, 0, 0], [0, 0, 0], [0, 0, 0, 0, 0, 0, 0, 0, 0, 0, 0, 0, 0], [0], [0]], [([1], []), ([], []), ([], []), ([4], []), ([3], []), ([0, 2, 4], []), ([0, 2, 3], [])], []⟩
def ir_undertowref13_Buffer_Elderl0 : C :=
 .seq (.seq (.reg [⟨.mv (.s 2), none⟩,
   ⟨.mv (.s 0), none⟩,
   ⟨.nilck (.r 1), none⟩,
   ⟨.off 0 (.r 2), none⟩,
   ⟨.load 0 false 1 (.r 3), none⟩,
   ⟨.len 1 (.r 4), none⟩,
   ⟨.bin .lss (.r 0) (.r 5), none⟩] [] [] [(3, 6, none)])
 (.cond (.s 3) (.skip)
  (.exit 0)))
 (.seq (.block 1 (.seq (.seq (.reg [⟨.mv (.s 0), none⟩,
    ⟨.nilck (.r 0), none⟩,
    ⟨.off 0 (.r 1), none⟩,
    ⟨.load 0 false 1 (.r 2), none⟩,
    ⟨.mv (.s 2), none⟩,
    ⟨.iaS 5 (.r 3) (.r 4), none⟩,
    ⟨.off 4 (.r 5), none⟩,
    ⟨.load 0 false 1 (.r 6), none⟩,
    ⟨.mv (.s 0), none⟩,
    ⟨.nilck (.r 8), none⟩,
    ⟨.off 1 (.r 9), none⟩,
    ⟨.load 0 false 1 (.r 10), none⟩,
    ⟨.bin .lss (.r 7) (.r 11), none⟩] [] [(3, 11), (5, 11), (7, 11)] [(4, 12, none)])
  (.drop [3] []))
  (.cond (.s 4) (.seq (.seq (.reg [⟨.mv (.c (.bool true)), none⟩] [] [] [(1, 0, none)])
   (.drop [0, 2, 4] []))
   (.ret))
   (.skip))))
 (.seq (.reg [⟨.mv (.s 2), none⟩,
   ⟨.bin .add (.r 0) (.c (.int .i64 1)), none⟩,
   ⟨.mv (.r 1), none⟩] [] [] [(2, 2, none)])
 (.drop [4] [])))
def ir_undertowref13_Buffer_Elder : Vm.Fn := ⟨[0, 2, 3, 10, 25], 0, 0, [.slot 1],
 .seq (.seq (.reg [⟨.mv (.c (.bool false)), none⟩] [] [] [(1, 0, none)])
 (.drop [1] []))
 (.seq (.seq (.reg [⟨.mv (.c (.int .i64 0)), none⟩] [] [] [(2, 0, none)])
 (.block 0 (.loop ir_undertowref13_Buffer_Elderl0)))
 (.seq (.seq (.reg [⟨.mv (.c (.bool false)), none⟩] [] [] [(1, 0, none)])
 (.drop [0, 2, 3] []))
 (.ret)))⟩
/-- 44: slices.Clone[[]undertow/api.Write,undertow/api.Write] -/
def h44 : Vm.Hint := ⟨[0, 2, 4], [], [2], [[1], [0, 0], [1], [0, 0, 3, 0]], [([1], [(false, 0)]), ([], []), ([0, 2], []), ([0, 2], [])], []⟩
def ir_slices_Clone_api_Write_api_Write : Vm.Fn := ⟨[0, 2, 4], 0, 1, [.slot 1],
 .seq (.seq (.reg [⟨.onil 0, none⟩] [(false, 0)] [] [(1, 0, some 0)])
 (.drop [1] [(false, 0)]))
 (.seq (.seq (.reg [⟨.mv (.s 0), none⟩,
   ⟨.eqn .slice false (.r 0) (.c (.nils)), none⟩] [] [] [(2, 1, none)])
 (.cond (.s 2) (.seq (.seq (.reg [⟨.onil 0, none⟩] [(false, 0)] [] [(1, 0, some 0)])
  (.drop [0, 2] []))
  (.ret))
  (.skip)))
 (.seq (.seq (.reg [⟨.lit 0 4 [] [], none⟩,
   ⟨.mv (.s 0), none⟩,
   ⟨.appR 0 4 32 (.r 0) (.r 1), none⟩,
   ⟨.mv (.r 2), none⟩] [(false, 0)] [] [(1, 3, some 0)])
 (.drop [0, 2] []))
 (.ret)))⟩
/-- 45: slices.IndexFunc[[]undertow/sbuf.entry,undertow/sbuf.entry] -/
def h45 : Vm.Hint := ⟨[0, 1, 4, 5, 7, 8, 9, 16], [], [], [[0], [0, 0, 0], [0], [0, 0], [0, 0, 0, 0, 0, 0], [0, 0], [0, 0], [0]], [([2], []), ([], []), ([], []), ([6], []), ([], []), ([0, 1, 3, 4, 5, 7], []), ([3, 7], []), ([0, 1, 4, 5, 6], [])], []⟩
def ir_slices_IndexFunc_sbuf_entry_sbuf_entryl0 : C :=
 .seq (.reg [⟨.bin .lss (.s 5) (.s 4), none⟩] [] [] [(6, 0, none)])
 (.seq (.cond (.s 6) (.skip)
  (.exit 0))
 (.seq (.block 1 (.seq (.seq (.reg [⟨.mv (.s 5), none⟩,
    ⟨.mv (.r 0), none⟩] [] [] [(3, 1, none)])
  (.drop [6] []))
  (.seq (.reg [⟨.mv (.s 1), none⟩,
    ⟨.mv (.s 0), none⟩,
    ⟨.mv (.s 3), none⟩,
    ⟨.iaS 3 (.r 1) (.r 2), none⟩,
    ⟨.load 0 true 3 (.r 3), none⟩,
    ⟨.callv .val (.r 0) [(.r 4)], none⟩] [] [] [(7, 5, none)])
  (.cond (.s 7) (.seq (.seq (.reg [⟨.mv (.s 3), none⟩,
     ⟨.mv (.r 0), none⟩] [] [] [(2, 1, none)])
   (.drop [0, 1, 3, 4, 5, 7] []))
   (.ret))
   (.skip)))))
 (.seq (.reg [⟨.bin .add (.s 5) (.c (.int .i64 1)), none⟩,
   ⟨.mv (.r 0), none⟩] [] [] [(5, 1, none)])
 (.drop [3, 7] []))))
def ir_slices_IndexFunc_sbuf_entry_sbuf_entry : Vm.Fn := ⟨[0, 1, 4, 5, 7, 8, 9, 16], 0, 0, [.slot 2],
 .seq (.seq (.reg [⟨.mv (.c (.int .i64 0)), none⟩] [] [] [(2, 0, none)])
 (.drop [2] []))
 (.seq (.seq (.reg [⟨.mv (.s 0), none⟩,
   ⟨.len 1 (.r 0), none⟩,
   ⟨.mv (.c (.int .i64 0)), none⟩] [] [] [(4, 1, none), (5, 2, none)])
 (.block 0 (.loop ir_slices_IndexFunc_sbuf_entry_sbuf_entryl0)))
 (.seq (.seq (.reg [⟨.mv (.c (.int .i64 (-1))), none⟩] [] [] [(2, 0, none)])
 (.drop [0, 1, 4, 5, 6] []))
 (.ret)))⟩
/-- 46: slices.Index[[]int,int] -/
def h46 : Vm.Hint := ⟨[0, 1, 4, 5, 7, 8, 9, 16], [], [], [[0], [0, 0, 0], [0], [0, 0], [0, 0, 0, 0, 0, 0], [0, 0], [0, 0], [0]], [([2], []), ([], []), ([], []), ([6], []), ([], []), ([0, 1, 3, 4, 5, 7], []), ([3, 7], []), ([0, 1, 4, 5, 6], [])], []⟩
def ir_slices_Index_int_intl0 : C :=
 .seq (.reg [⟨.bin .lss (.s 5) (.s 4), none⟩] [] [] [(6, 0, none)])
 (.seq (.cond (.s 6) (.skip)
  (.exit 0))
 (.seq (.block 1 (.seq (.seq (.reg [⟨.mv (.s 5), none⟩,
    ⟨.mv (.r 0), none⟩] [] [] [(3, 1, none)])
  (.drop [6] []))
  (.seq (.reg [⟨.mv (.s 1), none⟩,
    ⟨.mv (.s 0), none⟩,
    ⟨.mv (.s 3), none⟩,
    ⟨.iaS 1 (.r 1) (.r 2), none⟩,
    ⟨.load 0 false 1 (.r 3), none⟩,
    ⟨.bin .eql (.r 0) (.r 4), none⟩] [] [] [(7, 5, none)])
  (.cond (.s 7) (.seq (.seq (.reg [⟨.mv (.s 3), none⟩,
     ⟨.mv (.r 0), none⟩] [] [] [(2, 1, none)])
   (.drop [0, 1, 3, 4, 5, 7] []))
   (.ret))
   (.skip)))))
 (.seq (.reg [⟨.bin .add (.s 5) (.c (.int .i64 1)), none⟩,
   ⟨.mv (.r 0), none⟩] [] [] [(5, 1, none)])
 (.drop [3, 7] []))))
def ir_slices_Index_int_int : Vm.Fn := ⟨[0, 1, 4, 5, 7, 8, 9, 16], 0, 0, [.slot 2],
 .seq (.seq (.reg [⟨.mv (.c (.int .i64 0)), none⟩] [] [] [(2, 0, none)])
 (.drop [2] []))
 (.seq (.seq (.reg [⟨.mv (.s 0), none⟩,
   ⟨.len 1 (.r 0), none⟩,
   ⟨.mv (.c (.int .i64 0)), none⟩] [] [] [(4, 1, none), (5, 2, none)])
 (.block 0 (.loop ir_slices_Index_int_intl0)))
 (.seq (.seq (.reg [⟨.mv (.c (.int .i64 (-1))), none⟩] [] [] [(2, 0, none)])
 (.drop [0, 1, 4, 5, 6] []))
 (.ret)))⟩
/-- 47: undertow/word.Aligned -/
def h47 : Vm.Hint := ⟨[0, 1, 4, 5, 6], [], [], [[0], [0], [0, 0], [0, 0], [0, 0], [0, 0], [0, 0, 0, 0, 0, 0, 0, 0, 0], [0]], [], []⟩
def ir_word_Aligned : Vm.Fn := ⟨[0, 1, 4, 5, 6], 0, 0, [.slot 2],
 .seq (.reg [⟨.mv (.c (.bool false)), none⟩] [] [] [(2, 0, none)])
 (.seq (.seq (.reg [⟨.mv (.s 1), none⟩] [] [] [(3, 0, none)])
 (.block 0 (.seq (.seq (.reg [⟨.bin .eql (.s 3) (.c (.int .i64 1)), none⟩,
    ⟨.mv (.r 0), none⟩] [] [] [(4, 1, none)])
  (.cond (.s 4) (.skip)
   (.seq (.reg [⟨.bin .eql (.s 3) (.c (.int .i64 2)), none⟩,
     ⟨.mv (.r 0), none⟩] [] [] [(4, 1, none)])
   (.cond (.s 4) (.skip)
    (.seq (.reg [⟨.bin .eql (.s 3) (.c (.int .i64 4)), none⟩,
      ⟨.mv (.r 0), none⟩] [] [] [(4, 1, none)])
    (.cond (.s 4) (.skip)
     (.reg [⟨.bin .eql (.s 3) (.c (.int .i64 8)), none⟩,
       ⟨.mv (.r 0), none⟩] [] [] [(4, 1, none)])))))))
  (.cond (.s 4) (.seq (.reg [⟨.mv (.s 0), none⟩,
     ⟨.bin .geq (.r 0) (.c (.int .i64 0)), none⟩,
     ⟨.mv (.r 1), none⟩,
     ⟨.mv (.s 0), some (2, true)⟩,
     ⟨.mv (.s 1), some (2, true)⟩,
     ⟨.bin .rem (.r 3) (.r 4), some (2, true)⟩,
     ⟨.bin .eql (.r 5) (.c (.int .i64 0)), some (2, true)⟩,
     ⟨.pick (.r 2) (.r 6) (.c (.bool false)), none⟩,
     ⟨.mv (.r 7), none⟩] [] [] [(2, 8, none)])
   (.ret))
   (.skip)))))
 (.seq (.reg [⟨.mv (.c (.bool false)), none⟩] [] [] [(2, 0, none)])
 (.ret)))⟩
/-- 48: undertow/undertowref01.Aligned -/
def h48 : Vm.Hint := ⟨[0, 1, 4], [], [], [[0], [0, 0, 0, 0, 0, 0, 0, 0, 0, 0, 0, 0, 0, 0, 0, 0, 0, 0, 0, 0, 0, 0, 0, 0, 0, 0, 0, 0]], [], []⟩
def ir_undertowref01_Aligned : Vm.Fn := ⟨[0, 1, 4], 0, 0, [.slot 2],
 .seq (.reg [⟨.mv (.c (.bool false)), none⟩] [] [] [(2, 0, none)])
 (.seq (.reg [⟨.mv (.s 1), none⟩,
   ⟨.bin .eql (.r 0) (.c (.int .i64 1)), none⟩,
   ⟨.mv (.r 1), none⟩,
   ⟨.mv (.s 1), some (2, false)⟩,
   ⟨.bin .eql (.r 3) (.c (.int .i64 2)), some (2, false)⟩,
   ⟨.pick (.r 2) (.c (.bool true)) (.r 4), none⟩,
   ⟨.mv (.r 5), none⟩,
   ⟨.mv (.s 1), some (6, false)⟩,
   ⟨.bin .eql (.r 7) (.c (.int .i64 4)), some (6, false)⟩,
   ⟨.pick (.r 6) (.c (.bool true)) (.r 8), none⟩,
   ⟨.mv (.r 9), none⟩,
   ⟨.mv (.s 1), some (10, false)⟩,
   ⟨.bin .eql (.r 11) (.c (.int .i64 8)), some (10, false)⟩,
   ⟨.pick (.r 10) (.c (.bool true)) (.r 12), none⟩,
   ⟨.mv (.r 13), none⟩,
   ⟨.mv (.s 0), some (14, true)⟩,
   ⟨.bin .geq (.r 15) (.c (.int .i64 0)), some (14, true)⟩,
   ⟨.pick (.r 14) (.r 16) (.c (.bool false)), none⟩,
   ⟨.mv (.r 17), none⟩,
   ⟨.mv (.s 0), some (18, true)⟩,
   ⟨.mv (.s 1), some (18, true)⟩,
   ⟨.bin .quo (.r 19) (.r 20), some (18, true)⟩,
   ⟨.mv (.s 1), some (18, true)⟩,
   ⟨.bin .mul (.r 21) (.r 22), some (18, true)⟩,
   ⟨.mv (.s 0), some (18, true)⟩,
   ⟨.bin .eql (.r 23) (.r 24), some (18, true)⟩,
   ⟨.pick (.r 18) (.r 25) (.c (.bool false)), none⟩,
   ⟨.mv (.r 26), none⟩] [] [] [(2, 27, none)])
 (.ret))⟩
/-- 49: undertow/word.isRange -/
def h49 : Vm.Hint := ⟨[0, 1, 4], [], [], [[0], [0, 0, 0, 0, 0, 0, 0, 0, 0, 0, 0, 0, 0, 0, 0]], [], []⟩
def ir_word_isRange : Vm.Fn := ⟨[0, 1, 4], 0, 0, [.slot 2],
 .seq (.reg [⟨.mv (.c (.bool false)), none⟩] [] [] [(2, 0, none)])
 (.seq (.reg [⟨.mv (.s 0), none⟩,
   ⟨.bin .geq (.r 0) (.c (.int .i64 0)), none⟩,
   ⟨.mv (.r 1), none⟩,
   ⟨.mv (.s 0), some (2, true)⟩,
   ⟨.bin .leq (.r 3) (.c (.int .i64 1099511627776)), some (2, true)⟩,
   ⟨.pick (.r 2) (.r 4) (.c (.bool false)), none⟩,
   ⟨.mv (.r 5), none⟩,
   ⟨.mv (.s 1), some (6, true)⟩,
   ⟨.bin .geq (.r 7) (.c (.int .i64 1)), some (6, true)⟩,
   ⟨.pick (.r 6) (.r 8) (.c (.bool false)), none⟩,
   ⟨.mv (.r 9), none⟩,
   ⟨.mv (.s 1), some (10, true)⟩,
   ⟨.bin .leq (.r 11) (.c (.int .i64 8)), some (10, true)⟩,
   ⟨.pick (.r 10) (.r 12) (.c (.bool false)), none⟩,
   ⟨.mv (.r 13), none⟩] [] [] [(2, 14, none)])
 (.ret))⟩
def hints (f : Nat) : Option Vm.Hint := if f < 26 then (if f < 14 then (if f < 8 then (if f < 5 then (if f < 4 then (if f = 3 then some h3 else none) else (if f = 4 then some h4 else none)) else (if f < 6 then (if f = 5 then some h5 else none) else (if f < 7 then (if f = 6 then some h6 else none) else (if f = 7 then some h7 else none)))) else (if f < 11 then (if f < 9 then (if f = 8 then some h8 else none) else (if f < 10 then (if f = 9 then some h9 else none) else (if f = 10 then some h10 else none))) else (if f < 12 then (if f = 11 then some h11 else none) else (if f < 13 then (if f = 12 then some h12 else none) else (if f = 13 then some h13 else none))))) else (if f < 20 then (if f < 17 then (if f < 15 then (if f = 14 then some h14 else none) else (if f < 16 then (if f = 15 then some h15 else none) else (if f = 16 then some h16 else none))) else (if f < 18 then (if f = 17 then some h17 else none) else (if f < 19 then (if f = 18 then some h18 else none) else (if f = 19 then some h19 else none)))) else (if f < 23 then (if f < 21 then (if f = 20 then some h20 else none) else (if f < 22 then (if f = 21 then some h21 else none) else (if f = 22 then some h22 else none))) else (if f < 24 then (if f = 23 then some h23 else none) else (if f < 25 then (if f = 24 then some h24 else none) else (if f = 25 then some h25 else none)))))) else (if f < 38 then (if f < 32 then (if f < 29 then (if f < 27 then (if f = 26 then some h26 else none) else (if f < 28 then (if f = 27 then some h27 else none) else (if f = 28 then some h28 else none))) else (if f < 30 then (if f = 29 then some h29 else none) else (if f < 31 then (if f = 30 then some h30 else none) else (if f = 31 then some h31 else none)))) else (if f < 35 then (if f < 33 then (if f = 32 then some h32 else none) else (if f < 34 then (if f = 33 then some h33 else none) else (if f = 34 then some h34 else none))) else (if f < 36 then (if f = 35 then some h35 else none) else (if f < 37 then (if f = 36 then some h36 else none) else (if f = 37 then some h37 else none))))) else (if f < 44 then (if f < 41 then (if f < 39 then (if f = 38 then some h38 else none) else (if f < 40 then (if f = 39 then some h39 else none) else (if f = 40 then some h40 else none))) else (if f < 42 then (if f = 41 then some h41 else none) else (if f < 43 then (if f = 42 then some h42 else none) else (if f = 43 then some h43 else none)))) else (if f < 47 then (if f < 45 then (if f = 44 then some h44 else none) else (if f < 46 then (if f = 45 then some h45 else none) else (if f = 46 then some h46 else none))) else (if f < 48 then (if f = 47 then some h47 else none) else (if f < 49 then (if f = 48 then some h48 else none) else (if f = 49 then some h49 else none))))))
noncomputable abbrev pg : Vm.Pg := pgOf Go.Proofs.Try.prog hints glT
theorem fn_undertowlaw13_SbufFinds : pg.fn 3 = some ir_undertowlaw13_SbufFinds := by kernel_rfl
theorem fn_undertowlaw13_SbufOrder : pg.fn 4 = some ir_undertowlaw13_SbufOrder := by kernel_rfl
theorem fn_undertowlaw13_SbufSame : pg.fn 5 = some ir_undertowlaw13_SbufSame := by kernel_rfl
theorem fn_undertowlaw13_SbufPlays : pg.fn 6 = some ir_undertowlaw13_SbufPlays := by kernel_rfl
theorem fn_undertowlaw13_SbufNone : pg.fn 7 = some ir_undertowlaw13_SbufNone := by kernel_rfl
theorem fn_undertowlaw13_alive : pg.fn 8 = some ir_undertowlaw13_alive := by kernel_rfl
theorem fn_sbuf_Buffer_Put : pg.fn 9 = some ir_sbuf_Buffer_Put := by kernel_rfl
theorem fn_sbuf_Buffer_Barrier : pg.fn 10 = some ir_sbuf_Buffer_Barrier := by kernel_rfl
theorem fn_sbuf_Buffer_Drain : pg.fn 11 = some ir_sbuf_Buffer_Drain := by kernel_rfl
theorem fn_undertowref01_Zext : pg.fn 12 = some ir_undertowref01_Zext := by kernel_rfl
theorem fn_sbuf_Buffer_Find : pg.fn 13 = some ir_sbuf_Buffer_Find := by kernel_rfl
theorem fn_sbuf_Buffer_Empty : pg.fn 14 = some ir_sbuf_Buffer_Empty := by kernel_rfl
theorem fn_sbuf_Buffer_Ready : pg.fn 15 = some ir_sbuf_Buffer_Ready := by kernel_rfl
theorem fn_undertowref01_Overlap : pg.fn 16 = some ir_undertowref01_Overlap := by kernel_rfl
theorem fn_undertowref01_SameBytes : pg.fn 17 = some ir_undertowref01_SameBytes := by kernel_rfl
theorem fn_sbuf_Buffer_Fits : pg.fn 18 = some ir_sbuf_Buffer_Fits := by kernel_rfl
theorem fn_undertowref13_Buffer_Put : pg.fn 19 = some ir_undertowref13_Buffer_Put := by kernel_rfl
theorem fn_undertowref13_Buffer_Barrier : pg.fn 20 = some ir_undertowref13_Buffer_Barrier := by kernel_rfl
theorem fn_undertowref12_SameWrites : pg.fn 21 = some ir_undertowref12_SameWrites := by kernel_rfl
theorem fn_undertowref13_Buffer_Drain : pg.fn 22 = some ir_undertowref13_Buffer_Drain := by kernel_rfl
theorem fn_undertowref13_Buffer_Find : pg.fn 23 = some ir_undertowref13_Buffer_Find := by kernel_rfl
theorem fn_sbuf_Buffer_Overlaps : pg.fn 24 = some ir_sbuf_Buffer_Overlaps := by kernel_rfl
theorem fn_undertowref13_Buffer_Overlaps : pg.fn 25 = some ir_undertowref13_Buffer_Overlaps := by kernel_rfl
theorem fn_undertowlaw13_same : pg.fn 26 = some ir_undertowlaw13_same := by kernel_rfl
theorem fn_sbuf_Buffer_Entries : pg.fn 27 = some ir_sbuf_Buffer_Entries := by kernel_rfl
theorem fn_sbuf_Buffer_Elder : pg.fn 28 = some ir_sbuf_Buffer_Elder := by kernel_rfl
theorem fn_undertowref02_SameInts : pg.fn 29 = some ir_undertowref02_SameInts := by kernel_rfl
theorem fn_word_Zext : pg.fn 30 = some ir_word_Zext := by kernel_rfl
theorem fn_sbuf_Buffer_place : pg.fn 31 = some ir_sbuf_Buffer_place := by kernel_rfl
theorem fn_slices_ContainsFunc_sbuf_entry_sbuf_entry : pg.fn 32 = some ir_slices_ContainsFunc_sbuf_entry_sbuf_entry := by kernel_rfl
theorem fn_sbuf_Buffer_Barrier_1 : pg.fn 33 = some ir_sbuf_Buffer_Barrier_1 := by kernel_rfl
theorem fn_slices_Contains_int_int : pg.fn 34 = some ir_slices_Contains_int_int := by kernel_rfl
theorem fn_slices_Delete_sbuf_entry_sbuf_entry : pg.fn 35 = some ir_slices_Delete_sbuf_entry_sbuf_entry := by kernel_rfl
theorem fn_sbuf_Buffer_least : pg.fn 36 = some ir_sbuf_Buffer_least := by kernel_rfl
theorem fn_sbuf_may : pg.fn 37 = some ir_sbuf_may := by kernel_rfl
theorem fn_undertowref13_May : pg.fn 38 = some ir_undertowref13_May := by kernel_rfl
theorem fn_undertowref13_Buffer_Entries : pg.fn 39 = some ir_undertowref13_Buffer_Entries := by kernel_rfl
theorem fn_undertowref13_together : pg.fn 40 = some ir_undertowref13_together := by kernel_rfl
theorem fn_undertowref13_Buffer_Ready : pg.fn 41 = some ir_undertowref13_Buffer_Ready := by kernel_rfl
theorem fn_word_Overlap : pg.fn 42 = some ir_word_Overlap := by kernel_rfl
theorem fn_undertowref13_Buffer_Elder : pg.fn 43 = some ir_undertowref13_Buffer_Elder := by kernel_rfl
theorem fn_slices_Clone_api_Write_api_Write : pg.fn 44 = some ir_slices_Clone_api_Write_api_Write := by kernel_rfl
theorem fn_slices_IndexFunc_sbuf_entry_sbuf_entry : pg.fn 45 = some ir_slices_IndexFunc_sbuf_entry_sbuf_entry := by kernel_rfl
theorem fn_slices_Index_int_int : pg.fn 46 = some ir_slices_Index_int_int := by kernel_rfl
theorem fn_word_Aligned : pg.fn 47 = some ir_word_Aligned := by kernel_rfl
theorem fn_undertowref01_Aligned : pg.fn 48 = some ir_undertowref01_Aligned := by kernel_rfl
theorem fn_word_isRange : pg.fn 49 = some ir_word_isRange := by kernel_rfl
def irL : List (Nat × Vm.Fn) := [(3, ir_undertowlaw13_SbufFinds), (4, ir_undertowlaw13_SbufOrder), (5, ir_undertowlaw13_SbufSame), (6, ir_undertowlaw13_SbufPlays), (7, ir_undertowlaw13_SbufNone), (8, ir_undertowlaw13_alive), (9, ir_sbuf_Buffer_Put), (10, ir_sbuf_Buffer_Barrier), (11, ir_sbuf_Buffer_Drain), (12, ir_undertowref01_Zext), (13, ir_sbuf_Buffer_Find), (14, ir_sbuf_Buffer_Empty), (15, ir_sbuf_Buffer_Ready), (16, ir_undertowref01_Overlap), (17, ir_undertowref01_SameBytes), (18, ir_sbuf_Buffer_Fits), (19, ir_undertowref13_Buffer_Put), (20, ir_undertowref13_Buffer_Barrier), (21, ir_undertowref12_SameWrites), (22, ir_undertowref13_Buffer_Drain), (23, ir_undertowref13_Buffer_Find), (24, ir_sbuf_Buffer_Overlaps), (25, ir_undertowref13_Buffer_Overlaps), (26, ir_undertowlaw13_same), (27, ir_sbuf_Buffer_Entries), (28, ir_sbuf_Buffer_Elder), (29, ir_undertowref02_SameInts), (30, ir_word_Zext), (31, ir_sbuf_Buffer_place), (32, ir_slices_ContainsFunc_sbuf_entry_sbuf_entry), (33, ir_sbuf_Buffer_Barrier_1), (34, ir_slices_Contains_int_int), (35, ir_slices_Delete_sbuf_entry_sbuf_entry), (36, ir_sbuf_Buffer_least), (37, ir_sbuf_may), (38, ir_undertowref13_May), (39, ir_undertowref13_Buffer_Entries), (40, ir_undertowref13_together), (41, ir_undertowref13_Buffer_Ready), (42, ir_word_Overlap), (43, ir_undertowref13_Buffer_Elder), (44, ir_slices_Clone_api_Write_api_Write), (45, ir_slices_IndexFunc_sbuf_entry_sbuf_entry), (46, ir_slices_Index_int_int), (47, ir_word_Aligned), (48, ir_undertowref01_Aligned), (49, ir_word_isRange)]
theorem irL_ok : ∀ q ∈ irL, pg.fn q.1 = some q.2 := by
  simp only [irL, List.forall_mem_cons]
  exact ⟨fn_undertowlaw13_SbufFinds, fn_undertowlaw13_SbufOrder, fn_undertowlaw13_SbufSame, fn_undertowlaw13_SbufPlays, fn_undertowlaw13_SbufNone, fn_undertowlaw13_alive, fn_sbuf_Buffer_Put, fn_sbuf_Buffer_Barrier, fn_sbuf_Buffer_Drain, fn_undertowref01_Zext, fn_sbuf_Buffer_Find, fn_sbuf_Buffer_Empty, fn_sbuf_Buffer_Ready, fn_undertowref01_Overlap, fn_undertowref01_SameBytes, fn_sbuf_Buffer_Fits, fn_undertowref13_Buffer_Put, fn_undertowref13_Buffer_Barrier, fn_undertowref12_SameWrites, fn_undertowref13_Buffer_Drain, fn_undertowref13_Buffer_Find, fn_sbuf_Buffer_Overlaps, fn_undertowref13_Buffer_Overlaps, fn_undertowlaw13_same, fn_sbuf_Buffer_Entries, fn_sbuf_Buffer_Elder, fn_undertowref02_SameInts, fn_word_Zext, fn_sbuf_Buffer_place, fn_slices_ContainsFunc_sbuf_entry_sbuf_entry, fn_sbuf_Buffer_Barrier_1, fn_slices_Contains_int_int, fn_slices_Delete_sbuf_entry_sbuf_entry, fn_sbuf_Buffer_least, fn_sbuf_may, fn_undertowref13_May, fn_undertowref13_Buffer_Entries, fn_undertowref13_together, fn_undertowref13_Buffer_Ready, fn_word_Overlap, fn_undertowref13_Buffer_Elder, fn_slices_Clone_api_Write_api_Write, fn_slices_IndexFunc_sbuf_entry_sbuf_entry, fn_slices_Index_int_int, fn_word_Aligned, fn_undertowref01_Aligned, fn_word_isRange, by simp⟩
end Go.Proofs.Ytaedicechhbhdaa
