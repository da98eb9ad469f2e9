/- The functions' own form, printed by a tool of this session out of the given translation. -/
import Derived.Test.YtjfcjoiglkfaaaaVf
import Derived.Test.YtjfcjoiglkfaaaaChecked
import Derived.KernelRfl
namespace Go.Proofs.Ytjfcjoiglkfaaaa
open Go Go.Vm
abbrev n_undertowlaw14_GuessPlays : Nat := 3
abbrev n_undertowlaw14_GuessTwice : Nat := 4
abbrev n_undertowlaw14_alive : Nat := 5
abbrev n_guess_New : Nat := 6
abbrev n_guess_Guess_Next : Nat := 7
abbrev n_undertowref14_Next : Nat := 8
abbrev n_guess_Guess_Train : Nat := 9
abbrev n_guess_Guess_Counter : Nat := 10
abbrev n_undertowref14_Counter : Nat := 11
abbrev n_ops_Sort : Nat := 12
abbrev n_guess_jumps_went : Nat := 13
abbrev n_undertowref05_Sort : Nat := 14
abbrev n_guess_place : Nat := 15
/-- 3: undertow/undertowlaw14.GuessPlays -/
def h3 : Vm.Hint := ⟨[0, 1, 2, 4, 6, 7, 8, 9, 11, 20, 49, 101, 115], [4], [], [[1, 0], [0, 0], [0], [1, 0], [0], [0], [0, 0, 0, 0, 0, 0, 0, 0], [0, 0, 0], [0, 0, 0, 0, 0, 0, 0, 0, 0, 0, 0, 0, 0, 0, 0, 0, 0, 0, 0, 0, 0, 0, 0, 0, 0, 0, 0], [0], [0, 0, 0, 0, 0, 0, 0, 0, 0, 0, 0, 0, 0, 0, 0, 0, 1], [0, 0, 0, 0, 0, 0, 0, 0, 0, 0, 0, 0, 0, 0, 0, 0, 1], [0, 0, 0, 0, 0, 0, 0, 0, 0, 0, 0, 0, 0, 0, 0, 0, 0, 0], [0], [0, 0, 0, 0, 0, 0, 0, 0, 0, 0, 0, 0, 0, 0], [0], [0, 0, 0, 0, 0, 0, 0, 0, 0, 0, 0, 0, 0, 0, 0, 0, 0, 0, 0, 0, 0, 0, 0, 0, 0, 0, 0]]⟩
def ir_undertowlaw14_GuessPlaysl0 : C :=
 .seq (.seq (.reg [⟨.mv (.s 7), none⟩,
   ⟨.mv (.s 0), none⟩,
   ⟨.len 1 (.r 1), none⟩,
   ⟨.bin .lss (.r 0) (.r 2), none⟩,
   ⟨.mv (.r 3), none⟩,
   ⟨.mv (.s 7), some (4, true)⟩,
   ⟨.bin .lss (.r 5) (.c (.int .i64 60)), some (4, true)⟩,
   ⟨.pick (.r 4) (.r 6) (.c (.bool false)), none⟩] [] [] [(9, 7, none)])
 (.cond (.s 9) (.skip)
  (.exit 0)))
 (.seq (.block 1 (.seq (.seq (.reg [⟨.mv (.s 5), none⟩,
    ⟨.mv (.s 0), none⟩,
    ⟨.mv (.s 7), none⟩,
    ⟨.iaS 11 (.r 1) (.r 2), none⟩,
    ⟨.off 0 (.r 3), none⟩,
    ⟨.load 0 true 9 (.r 4), none⟩,
    ⟨.mv (.s 0), none⟩,
    ⟨.mv (.s 7), none⟩,
    ⟨.iaS 11 (.r 6) (.r 7), none⟩,
    ⟨.off 9 (.r 8), none⟩,
    ⟨.load 0 false 1 (.r 9), none⟩,
    ⟨.call .val n_guess_Guess_Next [(.r 0), (.r 5), (.r 10)], none⟩,
    ⟨.mv (.s 0), none⟩,
    ⟨.mv (.s 7), none⟩,
    ⟨.slc 11 (.r 12) none (some (.r 13)) none, none⟩,
    ⟨.mv (.s 0), none⟩,
    ⟨.mv (.s 7), none⟩,
    ⟨.iaS 11 (.r 15) (.r 16), none⟩,
    ⟨.off 0 (.r 17), none⟩,
    ⟨.load 0 true 9 (.r 18), none⟩,
    ⟨.mv (.s 0), none⟩,
    ⟨.mv (.s 7), none⟩,
    ⟨.iaS 11 (.r 20) (.r 21), none⟩,
    ⟨.off 9 (.r 22), none⟩,
    ⟨.load 0 false 1 (.r 23), none⟩,
    ⟨.call .val n_undertowref14_Next [(.r 14), (.r 19), (.r 24)], none⟩,
    ⟨.bin .neq (.r 11) (.r 25), none⟩] [] [(3, 8), (3, 10), (3, 14), (3, 17), (3, 19), (3, 22), (3, 24), (5, 8), (5, 10), (5, 14), (5, 17), (5, 19), (5, 22), (5, 24), (8, 14), (8, 17), (8, 19), (8, 22), (8, 24), (10, 14), (10, 17), (10, 19), (10, 22), (10, 24), (11, 14), (11, 17), (11, 19), (11, 22), (11, 24), (14, 17), (14, 19), (14, 22), (14, 24), (17, 22), (17, 24), (19, 22), (19, 24)] [(10, 26, none)])
  (.cond (.s 10) (.seq (.reg [⟨.mv (.c (.bool false)), none⟩] [] [] [(4, 0, none)])
   (.ret))
   (.skip)))
  (.seq (.reg [⟨.mv (.s 5), none⟩,
    ⟨.mv (.s 0), none⟩,
    ⟨.mv (.s 7), none⟩,
    ⟨.iaS 11 (.r 1) (.r 2), none⟩,
    ⟨.off 0 (.r 3), none⟩,
    ⟨.load 0 true 9 (.r 4), none⟩,
    ⟨.mv (.s 0), none⟩,
    ⟨.mv (.s 7), none⟩,
    ⟨.iaS 11 (.r 6) (.r 7), none⟩,
    ⟨.off 9 (.r 8), none⟩,
    ⟨.load 0 false 1 (.r 9), none⟩,
    ⟨.mv (.s 0), none⟩,
    ⟨.mv (.s 7), none⟩,
    ⟨.iaS 11 (.r 11) (.r 12), none⟩,
    ⟨.off 10 (.r 13), none⟩,
    ⟨.load 0 false 1 (.r 14), none⟩,
    ⟨.call .heap n_guess_Guess_Train [(.r 0), (.r 5), (.r 10), (.r 15)], none⟩] [] [(3, 8), (3, 10), (3, 13), (3, 15), (5, 8), (5, 10), (5, 13), (5, 15), (8, 13), (8, 15), (10, 13), (10, 15)] [])
  (.seq (.reg [⟨.mv (.s 6), none⟩,
    ⟨.mv (.s 0), none⟩,
    ⟨.mv (.s 7), none⟩,
    ⟨.iaS 11 (.r 1) (.r 2), none⟩,
    ⟨.off 0 (.r 3), none⟩,
    ⟨.load 0 true 9 (.r 4), none⟩,
    ⟨.mv (.s 0), none⟩,
    ⟨.mv (.s 7), none⟩,
    ⟨.iaS 11 (.r 6) (.r 7), none⟩,
    ⟨.off 9 (.r 8), none⟩,
    ⟨.load 0 false 1 (.r 9), none⟩,
    ⟨.mv (.s 0), none⟩,
    ⟨.mv (.s 7), none⟩,
    ⟨.iaS 11 (.r 11) (.r 12), none⟩,
    ⟨.off 10 (.r 13), none⟩,
    ⟨.load 0 false 1 (.r 14), none⟩,
    ⟨.call .heap n_guess_Guess_Train [(.r 0), (.r 5), (.r 10), (.r 15)], none⟩] [] [(3, 8), (3, 10), (3, 13), (3, 15), (5, 8), (5, 10), (5, 13), (5, 15), (8, 13), (8, 15), (10, 13), (10, 15)] [])
  (.seq (.reg [⟨.mv (.s 5), none⟩,
    ⟨.mv (.s 0), none⟩,
    ⟨.mv (.s 7), none⟩,
    ⟨.iaS 11 (.r 1) (.r 2), none⟩,
    ⟨.off 9 (.r 3), none⟩,
    ⟨.load 0 false 1 (.r 4), none⟩,
    ⟨.call .val n_guess_Guess_Counter [(.r 0), (.r 5)], none⟩,
    ⟨.mv (.s 0), none⟩,
    ⟨.mv (.s 7), none⟩,
    ⟨.bin .add (.r 8) (.c (.int .i64 1)), none⟩,
    ⟨.slc 11 (.r 7) none (some (.r 9)) none, none⟩,
    ⟨.mv (.s 0), none⟩,
    ⟨.mv (.s 7), none⟩,
    ⟨.iaS 11 (.r 11) (.r 12), none⟩,
    ⟨.off 9 (.r 13), none⟩,
    ⟨.load 0 false 1 (.r 14), none⟩,
    ⟨.call .val n_undertowref14_Counter [(.r 10), (.r 15)], none⟩,
    ⟨.bin .neq (.r 6) (.r 16), none⟩] [] [(3, 10), (3, 13), (3, 15), (5, 10), (5, 13), (5, 15), (6, 10), (6, 13), (6, 15), (10, 13), (10, 15)] [(11, 17, none)])
  (.cond (.s 11) (.seq (.reg [⟨.mv (.c (.bool false)), none⟩] [] [] [(4, 0, none)])
   (.ret))
   (.skip)))))))
 (.reg [⟨.mv (.s 7), none⟩,
   ⟨.bin .add (.r 0) (.c (.int .i64 1)), none⟩,
   ⟨.mv (.r 1), none⟩] [] [] [(7, 2, none)]))
def ir_undertowlaw14_GuessPlays : Vm.Fn := ⟨[0, 1, 2, 4, 6, 7, 8, 9, 11, 20, 49, 101, 115], 1, 0, [.slot 4],
 .seq (.reg [⟨.lbox 0 9 (.s 1), none⟩,
   ⟨.mv (.c (.bool false)), none⟩] [(true, 0)] [] [(3, 0, some 1), (4, 1, none)])
 (.seq (.seq (.reg [⟨.call .val n_undertowlaw14_alive [], none⟩,
   ⟨.un .not (.r 0), none⟩] [] [] [(8, 1, none)])
 (.cond (.s 8) (.seq (.reg [⟨.mv (.c (.bool false)), none⟩] [] [] [(4, 0, none)])
  (.ret))
  (.skip)))
 (.seq (.reg [⟨.call .heap n_guess_New [], none⟩,
   ⟨.mv (.r 0), none⟩] [] [] [(5, 1, none)])
 (.seq (.reg [⟨.mv (.c (.nilp)), none⟩] [] [] [(6, 0, none)])
 (.seq (.seq (.reg [⟨.mv (.c (.int .i64 0)), none⟩] [] [] [(7, 0, none)])
 (.block 0 (.loop ir_undertowlaw14_GuessPlaysl0)))
 (.seq (.seq (.reg [⟨.mv (.s 6), none⟩,
   ⟨.mv (.s 2), none⟩,
   ⟨.call .val n_guess_Guess_Counter [(.r 0), (.r 1)], none⟩,
   ⟨.bin .neq (.r 2) (.c (.int .i64 0)), none⟩,
   ⟨.mv (.r 3), none⟩,
   ⟨.mv (.s 6), some (4, false)⟩,
   ⟨.load 0 true 9 (.s 3), some (4, false)⟩,
   ⟨.mv (.s 2), some (4, false)⟩,
   ⟨.call .val n_guess_Guess_Next [(.r 5), (.r 6), (.r 7)], some (4, false)⟩,
   ⟨.load 0 true 9 (.s 3), some (4, false)⟩,
   ⟨.mv (.s 2), some (4, false)⟩,
   ⟨.call .val n_undertowref14_Next [(.c (.nils)), (.r 9), (.r 10)], some (4, false)⟩,
   ⟨.bin .neq (.r 8) (.r 11), some (4, false)⟩,
   ⟨.pick (.r 4) (.c (.bool true)) (.r 12), none⟩] [] [(6, 9), (8, 9)] [(12, 13, none)])
 (.cond (.s 12) (.seq (.reg [⟨.mv (.c (.bool false)), none⟩] [] [] [(4, 0, none)])
  (.ret))
  (.skip)))
 (.seq (.reg [⟨.call .val n_undertowlaw14_alive [], none⟩,
   ⟨.mv (.r 0), none⟩,
   ⟨.mv (.s 0), some (1, true)⟩,
   ⟨.len 1 (.r 2), some (1, true)⟩,
   ⟨.bin .gtr (.r 3) (.c (.int .i64 60)), some (1, true)⟩,
   ⟨.mv (.r 4), some (1, true)⟩,
   ⟨.mv (.s 5), some (5, false)⟩,
   ⟨.load 0 true 9 (.s 3), some (5, false)⟩,
   ⟨.mv (.s 2), some (5, false)⟩,
   ⟨.call .val n_guess_Guess_Next [(.r 6), (.r 7), (.r 8)], some (5, false)⟩,
   ⟨.mv (.s 0), some (5, false)⟩,
   ⟨.load 0 true 9 (.s 3), some (5, false)⟩,
   ⟨.mv (.s 2), some (5, false)⟩,
   ⟨.call .val n_undertowref14_Next [(.r 10), (.r 11), (.r 12)], some (5, false)⟩,
   ⟨.bin .eql (.r 9) (.r 13), some (5, false)⟩,
   ⟨.mv (.r 14), some (5, false)⟩,
   ⟨.mv (.s 5), some (15, true)⟩,
   ⟨.mv (.s 2), some (15, true)⟩,
   ⟨.call .val n_guess_Guess_Counter [(.r 16), (.r 17)], some (15, true)⟩,
   ⟨.mv (.s 0), some (15, true)⟩,
   ⟨.mv (.s 2), some (15, true)⟩,
   ⟨.call .val n_undertowref14_Counter [(.r 19), (.r 20)], some (15, true)⟩,
   ⟨.bin .eql (.r 18) (.r 21), some (15, true)⟩,
   ⟨.pick (.r 15) (.r 22) (.c (.bool false)), some (5, false)⟩,
   ⟨.pick (.r 5) (.c (.bool true)) (.r 23), some (1, true)⟩,
   ⟨.pick (.r 1) (.r 24) (.c (.bool false)), none⟩,
   ⟨.mv (.r 25), none⟩] [] [(7, 11), (9, 11)] [(4, 26, none)])
 (.ret)))))))⟩
/-- 4: undertow/undertowlaw14.GuessTwice -/
def h4 : Vm.Hint := ⟨[0, 1, 2, 3, 4, 10, 11, 12, 13, 14, 15, 17, 26, 47, 52], [13], [], [[0], [0, 0], [0], [1, 0], [0], [0, 0, 0, 0, 0, 0, 0, 0], [0, 0, 0], [0, 0, 0, 0, 0, 0, 0, 0, 0, 0, 0, 0, 0, 0, 0, 0, 1], [0, 0], [0], [0, 0, 1, 0], [0, 0, 0], [0], [0, 0, 0, 0, 0], [0, 0, 0, 0], [0, 0, 0, 0, 1], [0, 0, 0, 0, 1], [0, 0, 0, 0, 0, 0, 0, 0, 0, 0, 0, 0, 0, 0, 0, 0, 0, 0, 0, 0, 0, 0, 0, 0, 0, 0]]⟩
def ir_undertowlaw14_GuessTwicel0 : C :=
 .seq (.seq (.reg [⟨.mv (.s 7), none⟩,
   ⟨.mv (.s 0), none⟩,
   ⟨.len 1 (.r 1), none⟩,
   ⟨.bin .lss (.r 0) (.r 2), none⟩,
   ⟨.mv (.r 3), none⟩,
   ⟨.mv (.s 7), some (4, true)⟩,
   ⟨.bin .lss (.r 5) (.c (.int .i64 60)), some (4, true)⟩,
   ⟨.pick (.r 4) (.r 6) (.c (.bool false)), none⟩] [] [] [(12, 7, none)])
 (.cond (.s 12) (.skip)
  (.exit 0)))
 (.seq (.block 1 (.reg [⟨.mv (.s 6), none⟩,
    ⟨.mv (.s 0), none⟩,
    ⟨.mv (.s 7), none⟩,
    ⟨.iaS 11 (.r 1) (.r 2), none⟩,
    ⟨.off 0 (.r 3), none⟩,
    ⟨.load 0 true 9 (.r 4), none⟩,
    ⟨.mv (.s 0), none⟩,
    ⟨.mv (.s 7), none⟩,
    ⟨.iaS 11 (.r 6) (.r 7), none⟩,
    ⟨.off 9 (.r 8), none⟩,
    ⟨.load 0 false 1 (.r 9), none⟩,
    ⟨.mv (.s 0), none⟩,
    ⟨.mv (.s 7), none⟩,
    ⟨.iaS 11 (.r 11) (.r 12), none⟩,
    ⟨.off 10 (.r 13), none⟩,
    ⟨.load 0 false 1 (.r 14), none⟩,
    ⟨.call .heap n_guess_Guess_Train [(.r 0), (.r 5), (.r 10), (.r 15)], none⟩] [] [(3, 8), (3, 10), (3, 13), (3, 15), (5, 8), (5, 10), (5, 13), (5, 15), (8, 13), (8, 15), (10, 13), (10, 15)] []))
 (.reg [⟨.mv (.s 7), none⟩,
   ⟨.bin .add (.r 0) (.c (.int .i64 1)), none⟩,
   ⟨.mv (.r 1), none⟩] [] [] [(7, 2, none)]))
def ir_undertowlaw14_GuessTwice : Vm.Fn := ⟨[0, 1, 2, 3, 4, 10, 11, 12, 13, 14, 15, 17, 26, 47, 52], 1, 0, [.slot 5],
 .seq (.reg [⟨.mv (.c (.bool false)), none⟩] [] [] [(5, 0, none)])
 (.seq (.seq (.reg [⟨.call .val n_undertowlaw14_alive [], none⟩,
   ⟨.un .not (.r 0), none⟩] [] [] [(11, 1, none)])
 (.cond (.s 11) (.seq (.reg [⟨.mv (.c (.bool false)), none⟩] [] [] [(5, 0, none)])
  (.ret))
  (.skip)))
 (.seq (.reg [⟨.call .heap n_guess_New [], none⟩,
   ⟨.mv (.r 0), none⟩] [] [] [(6, 1, none)])
 (.seq (.seq (.reg [⟨.mv (.c (.int .i64 0)), none⟩] [] [] [(7, 0, none)])
 (.block 0 (.loop ir_undertowlaw14_GuessTwicel0)))
 (.seq (.seq (.reg [⟨.mv (.s 1), none⟩,
   ⟨.bin .eql (.r 0) (.c (.int .i64 4)), none⟩] [] [] [(13, 1, none)])
 (.cond (.s 13) (.reg [⟨.mv (.c (.int .i64 8)), none⟩] [] [] [(1, 0, none)])
  (.skip)))
 (.seq (.reg [⟨.mv (.s 1), none⟩,
   ⟨.build [.int .i64 0, .int .i64 0, .int .i64 0, .int .i64 0, .int .i64 0, .bool false, .bool false, .int .i64 0, .int .i64 0] [(0, 1, (.c (.int .i64 6))), (4, 1, (.r 0))], none⟩,
   ⟨.lalloc 0 [.int .i64 0, .int .i64 0, .int .i64 0, .int .i64 0, .int .i64 0, .bool false, .bool false, .int .i64 0, .int .i64 0], none⟩,
   ⟨.store 0 9 (.r 2) (.r 1), none⟩] [(true, 0)] [] [(8, 2, some 1)])
 (.seq (.reg [⟨.mv (.s 2), none⟩,
   ⟨.bin .add (.r 0) (.c (.int .u64 4)), none⟩,
   ⟨.mv (.r 1), none⟩] [] [] [(9, 2, none)])
 (.seq (.seq (.reg [⟨.mv (.s 4), none⟩] [] [] [(14, 0, none)])
 (.cond (.s 14) (.reg [⟨.mv (.s 2), none⟩,
    ⟨.mv (.s 1), none⟩,
    ⟨.i2i .u64 (.r 1), none⟩,
    ⟨.bin .add (.r 0) (.r 2), none⟩,
    ⟨.mv (.r 3), none⟩] [] [] [(9, 4, none)])
  (.skip)))
 (.seq (.reg [⟨.mv (.s 6), none⟩,
   ⟨.mv (.s 3), none⟩,
   ⟨.call .val n_guess_Guess_Counter [(.r 0), (.r 1)], none⟩,
   ⟨.mv (.r 2), none⟩] [] [] [(10, 3, none)])
 (.seq (.reg [⟨.mv (.s 6), none⟩,
   ⟨.load 0 true 9 (.s 8), none⟩,
   ⟨.mv (.s 2), none⟩,
   ⟨.mv (.s 9), none⟩,
   ⟨.call .heap n_guess_Guess_Train [(.r 0), (.r 1), (.r 2), (.r 3)], none⟩] [] [] [])
 (.seq (.reg [⟨.mv (.s 6), none⟩,
   ⟨.load 0 true 9 (.s 8), none⟩,
   ⟨.mv (.s 2), none⟩,
   ⟨.mv (.s 9), none⟩,
   ⟨.call .heap n_guess_Guess_Train [(.r 0), (.r 1), (.r 2), (.r 3)], none⟩] [] [] [])
 (.seq (.reg [⟨.call .val n_undertowlaw14_alive [], none⟩,
   ⟨.mv (.r 0), none⟩,
   ⟨.mv (.s 6), some (1, true)⟩,
   ⟨.load 0 true 9 (.s 8), some (1, true)⟩,
   ⟨.mv (.s 2), some (1, true)⟩,
   ⟨.call .val n_guess_Guess_Next [(.r 2), (.r 3), (.r 4)], some (1, true)⟩,
   ⟨.mv (.s 9), some (1, true)⟩,
   ⟨.bin .eql (.r 5) (.r 6), some (1, true)⟩,
   ⟨.pick (.r 1) (.r 7) (.c (.bool false)), none⟩,
   ⟨.mv (.r 8), none⟩,
   ⟨.mv (.s 3), some (9, true)⟩,
   ⟨.bin .quo (.r 10) (.c (.int .u64 4)), some (9, true)⟩,
   ⟨.bin .rem (.r 11) (.c (.int .u64 16)), some (9, true)⟩,
   ⟨.mv (.s 2), some (9, true)⟩,
   ⟨.bin .quo (.r 13) (.c (.int .u64 4)), some (9, true)⟩,
   ⟨.bin .rem (.r 14) (.c (.int .u64 16)), some (9, true)⟩,
   ⟨.bin .eql (.r 12) (.r 15), some (9, true)⟩,
   ⟨.mv (.r 16), some (9, true)⟩,
   ⟨.mv (.s 6), some (17, false)⟩,
   ⟨.mv (.s 3), some (17, false)⟩,
   ⟨.call .val n_guess_Guess_Counter [(.r 18), (.r 19)], some (17, false)⟩,
   ⟨.mv (.s 10), some (17, false)⟩,
   ⟨.bin .eql (.r 20) (.r 21), some (17, false)⟩,
   ⟨.pick (.r 17) (.c (.bool true)) (.r 22), some (9, true)⟩,
   ⟨.pick (.r 9) (.r 23) (.c (.bool false)), none⟩,
   ⟨.mv (.r 24), none⟩] [] [] [(5, 25, none)])
 (.ret))))))))))))⟩
/-- 5: undertow/undertowlaw14.alive -/
def h5 : Vm.Hint := ⟨[0, 1, 2, 3], [2], [], [[0], [1, 0], [0, 1, 0], [0, 0, 0, 0], [0, 0, 1], [0, 0, 0, 0, 0, 0, 0, 0, 0, 0, 0, 0, 0, 0, 0, 0, 0, 0, 0]]⟩
def ir_undertowlaw14_alive : Vm.Fn := ⟨[0, 1, 2, 3], 1, 0, [.slot 0],
 .seq (.reg [⟨.mv (.c (.bool false)), none⟩] [] [] [(0, 0, none)])
 (.seq (.reg [⟨.call .heap n_guess_New [], none⟩,
   ⟨.mv (.r 0), none⟩] [] [] [(1, 1, none)])
 (.seq (.reg [⟨.build [.int .i64 0, .int .i64 0, .int .i64 0, .int .i64 0, .int .i64 0, .bool false, .bool false, .int .i64 0, .int .i64 0] [(0, 1, (.c (.int .i64 5))), (4, 1, (.c (.int .i64 (-8))))], none⟩,
   ⟨.lalloc 0 [.int .i64 0, .int .i64 0, .int .i64 0, .int .i64 0, .int .i64 0, .bool false, .bool false, .int .i64 0, .int .i64 0], none⟩,
   ⟨.store 0 9 (.r 1) (.r 0), none⟩] [(true, 0)] [] [(2, 1, some 1)])
 (.seq (.reg [⟨.mv (.s 1), none⟩,
   ⟨.load 0 true 9 (.s 2), none⟩,
   ⟨.call .val n_guess_Guess_Next [(.r 0), (.r 1), (.c (.int .u64 8))], none⟩,
   ⟨.mv (.r 2), none⟩] [] [] [(3, 3, none)])
 (.seq (.reg [⟨.mv (.s 1), none⟩,
   ⟨.load 0 true 9 (.s 2), none⟩,
   ⟨.call .heap n_guess_Guess_Train [(.r 0), (.r 1), (.c (.int .u64 8)), (.c (.int .u64 0))], none⟩] [] [] [])
 (.seq (.reg [⟨.mv (.s 3), none⟩,
   ⟨.bin .eql (.r 0) (.c (.int .u64 12)), none⟩,
   ⟨.mv (.r 1), none⟩,
   ⟨.mv (.s 1), some (2, true)⟩,
   ⟨.load 0 true 9 (.s 2), some (2, true)⟩,
   ⟨.call .val n_guess_Guess_Next [(.r 3), (.r 4), (.c (.int .u64 8))], some (2, true)⟩,
   ⟨.bin .eql (.r 5) (.c (.int .u64 0)), some (2, true)⟩,
   ⟨.pick (.r 2) (.r 6) (.c (.bool false)), none⟩,
   ⟨.mv (.r 7), none⟩,
   ⟨.mv (.s 1), some (8, true)⟩,
   ⟨.call .val n_guess_Guess_Counter [(.r 9), (.c (.int .u64 8))], some (8, true)⟩,
   ⟨.bin .eql (.r 10) (.c (.int .i64 2)), some (8, true)⟩,
   ⟨.pick (.r 8) (.r 11) (.c (.bool false)), none⟩,
   ⟨.mv (.r 12), none⟩,
   ⟨.mv (.s 1), some (13, true)⟩,
   ⟨.call .val n_guess_Guess_Counter [(.r 14), (.c (.int .u64 12))], some (13, true)⟩,
   ⟨.bin .eql (.r 15) (.c (.int .i64 1)), some (13, true)⟩,
   ⟨.pick (.r 13) (.r 16) (.c (.bool false)), none⟩,
   ⟨.mv (.r 17), none⟩] [] [] [(0, 18, none)])
 (.ret))))))⟩
/-- 6: undertow/guess.New -/
def h6 : Vm.Hint := ⟨[0, 1, 2, 5, 6], [], [], [[0], [0, 0, 0], [0], [0], [0, 0], [0, 0, 0, 0, 0, 0], [0, 0], [0, 0]]⟩
def ir_guess_Newl0 : C :=
 .seq (.reg [⟨.bin .lss (.s 3) (.c (.int .i64 16)), none⟩] [] [] [(4, 0, none)])
 (.seq (.cond (.s 4) (.skip)
  (.exit 0))
 (.seq (.block 1 (.seq (.reg [⟨.mv (.s 3), none⟩,
    ⟨.mv (.r 0), none⟩] [] [] [(2, 1, none)])
  (.reg [⟨.mv (.s 1), none⟩,
    ⟨.mv (.s 2), none⟩,
    ⟨.nilck (.r 0), none⟩,
    ⟨.off 32 (.r 2), none⟩,
    ⟨.iaA 16 1 (.r 3) (.r 1), none⟩,
    ⟨.store 0 1 (.r 4) (.c (.int .i64 1)), none⟩] [] [] [])))
 (.reg [⟨.bin .add (.s 3) (.c (.int .i64 1)), none⟩,
   ⟨.mv (.r 0), none⟩] [] [] [(3, 1, none)])))
def ir_guess_New : Vm.Fn := ⟨[0, 1, 2, 5, 6], 0, 0, [.slot 0],
 .seq (.reg [⟨.mv (.c (.nilp)), none⟩] [] [] [(0, 0, none)])
 (.seq (.reg [⟨.build [.int .u64 0, .bool false, .int .u64 0, .bool false, .int .u64 0, .bool false, .int .u64 0, .bool false, .int .u64 0, .bool false, .int .u64 0, .bool false, .int .u64 0, .bool false, .int .u64 0, .bool false, .int .u64 0, .bool false, .int .u64 0, .bool false, .int .u64 0, .bool false, .int .u64 0, .bool false, .int .u64 0, .bool false, .int .u64 0, .bool false, .int .u64 0, .bool false, .int .u64 0, .bool false, .int .i64 0, .int .i64 0, .int .i64 0, .int .i64 0, .int .i64 0, .int .i64 0, .int .i64 0, .int .i64 0, .int .i64 0, .int .i64 0, .int .i64 0, .int .i64 0, .int .i64 0, .int .i64 0, .int .i64 0, .int .i64 0] [], none⟩,
   ⟨.hbox 48 (.r 0), none⟩,
   ⟨.mv (.r 1), none⟩] [] [] [(1, 2, none)])
 (.seq (.seq (.reg [⟨.mv (.c (.int .i64 0)), none⟩] [] [] [(3, 0, none)])
 (.block 0 (.loop ir_guess_Newl0)))
 (.seq (.reg [⟨.mv (.s 1), none⟩,
   ⟨.mv (.r 0), none⟩] [] [] [(0, 1, none)])
 (.ret))))⟩
/-- 7: (*undertow/guess.Guess).Next -/
def h7 : Vm.Hint := ⟨[0, 1, 2, 4, 6, 7, 9, 11, 30, 40], [4, 7], [], [[1, 0], [0, 0], [1, 0], [0, 0, 0, 0], [0, 0, 0, 0, 0, 0, 0, 0, 0, 0, 0], [0, 0, 0, 0, 0, 0], [0, 0, 0, 0], [0, 0, 0, 0, 0, 2, 0], [0, 0], [0, 0, 0], [0, 0, 0]]⟩
def ir_guess_Guess_Next : Vm.Fn := ⟨[0, 1, 2, 4, 6, 7, 9, 11, 30, 40], 2, 0, [.slot 4],
 .seq (.reg [⟨.lbox 0 9 (.s 1), none⟩,
   ⟨.mv (.c (.int .u64 0)), none⟩] [(true, 0)] [] [(3, 0, some 1), (4, 1, none)])
 (.seq (.seq (.reg [⟨.mv (.s 0), none⟩,
   ⟨.eqn .ptr false (.r 0) (.c (.nilp)), none⟩] [] [] [(6, 1, none)])
 (.cond (.s 6) (.reg [⟨.call .heap n_guess_New [], none⟩,
    ⟨.mv (.r 0), none⟩] [] [] [(0, 1, none)])
  (.skip)))
 (.seq (.block 0 (.seq (.seq (.reg [⟨.off 0 (.s 3), none⟩,
    ⟨.load 0 false 1 (.r 0), none⟩,
    ⟨.bin .eql (.r 1) (.c (.int .i64 3)), none⟩,
    ⟨.mv (.r 2), none⟩] [] [] [(7, 3, none)])
  (.cond (.s 7) (.skip)
   (.reg [⟨.off 0 (.s 3), none⟩,
     ⟨.load 0 false 1 (.r 0), none⟩,
     ⟨.call .val n_ops_Sort [(.r 1)], none⟩,
     ⟨.bin .eql (.r 2) (.c (.int .i64 3)), none⟩,
     ⟨.mv (.r 3), none⟩,
     ⟨.mv (.s 0), some (4, true)⟩,
     ⟨.mv (.s 2), some (4, true)⟩,
     ⟨.call .val n_guess_Guess_Counter [(.r 5), (.r 6)], some (4, true)⟩,
     ⟨.bin .gtr (.r 7) (.c (.int .i64 1)), some (4, true)⟩,
     ⟨.pick (.r 4) (.r 8) (.c (.bool false)), none⟩,
     ⟨.mv (.r 9), none⟩] [] [] [(7, 10, none)])))
  (.cond (.s 7) (.seq (.reg [⟨.mv (.s 2), none⟩,
     ⟨.off 4 (.s 3), none⟩,
     ⟨.load 0 false 1 (.r 1), none⟩,
     ⟨.i2i .u64 (.r 2), none⟩,
     ⟨.bin .add (.r 0) (.r 3), none⟩,
     ⟨.mv (.r 4), none⟩] [] [] [(4, 5, none)])
   (.ret))
   (.seq (.reg [⟨.off 0 (.s 3), none⟩,
     ⟨.load 0 false 1 (.r 0), none⟩,
     ⟨.bin .eql (.r 1) (.c (.int .i64 4)), none⟩,
     ⟨.mv (.r 2), none⟩] [] [] [(8, 3, none)])
   (.cond (.s 8) (.seq (.reg [⟨.mv (.s 0), none⟩,
      ⟨.nilck (.r 0), none⟩,
      ⟨.off 0 (.r 1), none⟩,
      ⟨.mv (.s 2), none⟩,
      ⟨.call .val n_guess_jumps_went [(.r 2), (.r 3)], none⟩,
      ⟨.lalloc 1 [.int .u64 0, .bool false], none⟩,
      ⟨.store 0 2 (.r 5) (.r 4), none⟩] [(true, 1)] [] [(5, 5, some 3)])
    (.seq (.reg [⟨.off 1 (.s 5), none⟩,
      ⟨.load 0 false 1 (.r 0), none⟩] [] [] [(9, 1, none)])
    (.cond (.s 9) (.seq (.reg [⟨.off 0 (.s 5), none⟩,
       ⟨.load 0 false 1 (.r 0), none⟩,
       ⟨.mv (.r 1), none⟩] [] [] [(4, 2, none)])
     (.ret))
     (.skip))))
    (.skip))))))
 (.seq (.reg [⟨.mv (.s 2), none⟩,
   ⟨.bin .add (.r 0) (.c (.int .u64 4)), none⟩,
   ⟨.mv (.r 1), none⟩] [] [] [(4, 2, none)])
 (.ret))))⟩
/-- 8: undertow/undertowref14.Next -/
def h8 : Vm.Hint := ⟨[0, 1, 2, 4, 6, 7, 8, 24, 32, 37, 59], [4], [], [[1, 0], [0, 0, 0, 0], [0, 0, 0, 0, 0, 0, 0, 0, 0, 0, 0, 0, 0], [0, 0, 0, 0, 0, 0], [0, 0, 0], [0, 0, 0, 0], [0, 0], [0, 0, 0], [0, 0, 0, 0, 0, 0, 0, 0, 0, 0, 0, 0, 0, 0, 0, 0, 0, 0, 0, 0], [0, 0, 0, 0, 0, 0], [0, 0, 0]]⟩
def ir_undertowref14_Nextl0 : C :=
 .seq (.seq (.reg [⟨.mv (.s 6), none⟩,
   ⟨.bin .geq (.r 0) (.c (.int .i64 0)), none⟩] [] [] [(9, 1, none)])
 (.cond (.s 9) (.skip)
  (.exit 0)))
 (.seq (.block 1 (.seq (.reg [⟨.mv (.s 0), none⟩,
    ⟨.mv (.s 6), none⟩,
    ⟨.iaS 11 (.r 0) (.r 1), none⟩,
    ⟨.off 0 (.r 2), none⟩,
    ⟨.off 0 (.r 3), none⟩,
    ⟨.load 0 false 1 (.r 4), none⟩,
    ⟨.bin .eql (.r 5) (.c (.int .i64 4)), none⟩,
    ⟨.mv (.r 6), none⟩,
    ⟨.mv (.s 0), some (7, true)⟩,
    ⟨.mv (.s 6), some (7, true)⟩,
    ⟨.iaS 11 (.r 8) (.r 9), some (7, true)⟩,
    ⟨.off 9 (.r 10), some (7, true)⟩,
    ⟨.load 0 false 1 (.r 11), some (7, true)⟩,
    ⟨.bin .quo (.r 12) (.c (.int .u64 4)), some (7, true)⟩,
    ⟨.bin .rem (.r 13) (.c (.int .u64 16)), some (7, true)⟩,
    ⟨.mv (.s 2), some (7, true)⟩,
    ⟨.bin .quo (.r 15) (.c (.int .u64 4)), some (7, true)⟩,
    ⟨.bin .rem (.r 16) (.c (.int .u64 16)), some (7, true)⟩,
    ⟨.bin .eql (.r 14) (.r 17), some (7, true)⟩,
    ⟨.pick (.r 7) (.r 18) (.c (.bool false)), none⟩] [] [] [(10, 19, none)])
  (.cond (.s 10) (.seq (.reg [⟨.mv (.s 0), none⟩,
     ⟨.mv (.s 6), none⟩,
     ⟨.iaS 11 (.r 0) (.r 1), none⟩,
     ⟨.off 10 (.r 2), none⟩,
     ⟨.load 0 false 1 (.r 3), none⟩,
     ⟨.mv (.r 4), none⟩] [] [] [(4, 5, none)])
   (.ret))
   (.skip))))
 (.reg [⟨.mv (.s 6), none⟩,
   ⟨.bin .sub (.r 0) (.c (.int .i64 1)), none⟩,
   ⟨.mv (.r 1), none⟩] [] [] [(6, 2, none)]))
def ir_undertowref14_Next : Vm.Fn := ⟨[0, 1, 2, 4, 6, 7, 8, 24, 32, 37, 59], 1, 0, [.slot 4],
 .seq (.reg [⟨.lbox 0 9 (.s 1), none⟩,
   ⟨.mv (.c (.int .u64 0)), none⟩] [(true, 0)] [] [(3, 0, some 1), (4, 1, none)])
 (.seq (.reg [⟨.off 0 (.s 3), none⟩,
   ⟨.load 0 false 1 (.r 0), none⟩,
   ⟨.call .val n_undertowref05_Sort [(.r 1)], none⟩,
   ⟨.mv (.r 2), none⟩] [] [] [(5, 3, none)])
 (.seq (.seq (.reg [⟨.off 0 (.s 3), none⟩,
   ⟨.load 0 false 1 (.r 0), none⟩,
   ⟨.bin .eql (.r 1) (.c (.int .i64 3)), none⟩,
   ⟨.mv (.r 2), none⟩,
   ⟨.mv (.s 5), some (3, false)⟩,
   ⟨.bin .eql (.r 4) (.c (.int .i64 3)), some (3, false)⟩,
   ⟨.mv (.r 5), some (3, false)⟩,
   ⟨.mv (.s 0), some (6, true)⟩,
   ⟨.mv (.s 2), some (6, true)⟩,
   ⟨.call .val n_undertowref14_Counter [(.r 7), (.r 8)], some (6, true)⟩,
   ⟨.bin .geq (.r 9) (.c (.int .i64 2)), some (6, true)⟩,
   ⟨.pick (.r 6) (.r 10) (.c (.bool false)), some (3, false)⟩,
   ⟨.pick (.r 3) (.c (.bool true)) (.r 11), none⟩] [] [] [(7, 12, none)])
 (.cond (.s 7) (.seq (.reg [⟨.mv (.s 2), none⟩,
    ⟨.off 4 (.s 3), none⟩,
    ⟨.load 0 false 1 (.r 1), none⟩,
    ⟨.i2i .u64 (.r 2), none⟩,
    ⟨.bin .add (.r 0) (.r 3), none⟩,
    ⟨.mv (.r 4), none⟩] [] [] [(4, 5, none)])
  (.ret))
  (.skip)))
 (.seq (.seq (.reg [⟨.off 0 (.s 3), none⟩,
   ⟨.load 0 false 1 (.r 0), none⟩,
   ⟨.bin .eql (.r 1) (.c (.int .i64 4)), none⟩] [] [] [(8, 2, none)])
 (.cond (.s 8) (.seq (.reg [⟨.mv (.s 0), none⟩,
    ⟨.len 1 (.r 0), none⟩,
    ⟨.bin .sub (.r 1) (.c (.int .i64 1)), none⟩,
    ⟨.mv (.r 2), none⟩] [] [] [(6, 3, none)])
  (.block 0 (.loop ir_undertowref14_Nextl0)))
  (.skip)))
 (.seq (.reg [⟨.mv (.s 2), none⟩,
   ⟨.bin .add (.r 0) (.c (.int .u64 4)), none⟩,
   ⟨.mv (.r 1), none⟩] [] [] [(4, 2, none)])
 (.ret)))))⟩
/-- 9: (*undertow/guess.Guess).Train -/
def h9 : Vm.Hint := ⟨[0, 1, 2, 3, 5, 8, 10, 24, 37, 47], [5], [], [[1], [0, 0], [0, 0, 0, 0, 0, 0, 0], [0, 0, 0, 0, 0, 0, 0, 0], [0, 0, 0, 0], [0, 0, 0, 0, 0, 0, 0, 0, 0, 0], [0, 0, 0, 0, 0, 0, 0, 0, 0, 0], [0, 0, 0, 0, 0, 0, 0, 0], [0, 0, 0, 0, 0, 0, 0, 0]]⟩
def ir_guess_Guess_Train : Vm.Fn := ⟨[0, 1, 2, 3, 5, 8, 10, 24, 37, 47], 1, 0, [],
 .seq (.reg [⟨.lbox 0 9 (.s 1), none⟩] [(true, 0)] [] [(4, 0, some 1)])
 (.seq (.seq (.reg [⟨.mv (.s 0), none⟩,
   ⟨.eqn .ptr false (.r 0) (.c (.nilp)), none⟩] [] [] [(6, 1, none)])
 (.cond (.s 6) (.ret)
  (.skip)))
 (.seq (.reg [⟨.mv (.s 0), none⟩,
   ⟨.mv (.s 2), none⟩,
   ⟨.call .val n_guess_place [(.r 1)], none⟩,
   ⟨.nilck (.r 0), none⟩,
   ⟨.off 32 (.r 3), none⟩,
   ⟨.iaA 16 1 (.r 4) (.r 2), none⟩,
   ⟨.mv (.r 5), none⟩] [] [] [(5, 6, none)])
 (.block 0 (.seq (.reg [⟨.off 0 (.s 4), none⟩,
    ⟨.load 0 false 1 (.r 0), none⟩,
    ⟨.bin .eql (.r 1) (.c (.int .i64 4)), none⟩,
    ⟨.mv (.r 2), none⟩] [] [] [(7, 3, none)])
  (.cond (.s 7) (.reg [⟨.mv (.s 0), none⟩,
     ⟨.mv (.s 2), none⟩,
     ⟨.call .val n_guess_place [(.r 1)], none⟩,
     ⟨.mv (.s 3), none⟩,
     ⟨.build [.int .u64 0, .bool false] [(0, 1, (.r 3)), (1, 1, (.c (.bool true)))], none⟩,
     ⟨.nilck (.r 0), none⟩,
     ⟨.off 0 (.r 5), none⟩,
     ⟨.off 0 (.r 6), none⟩,
     ⟨.iaA 16 2 (.r 7) (.r 2), none⟩,
     ⟨.store 0 2 (.r 8) (.r 4), none⟩] [] [] [])
   (.seq (.reg [⟨.off 0 (.s 4), none⟩,
     ⟨.load 0 false 1 (.r 0), none⟩,
     ⟨.call .val n_ops_Sort [(.r 1)], none⟩,
     ⟨.bin .neq (.r 2) (.c (.int .i64 3)), none⟩,
     ⟨.mv (.r 3), none⟩,
     ⟨.off 4 (.s 4), some (4, false)⟩,
     ⟨.load 0 false 1 (.r 5), some (4, false)⟩,
     ⟨.bin .eql (.r 6) (.c (.int .i64 4)), some (4, false)⟩,
     ⟨.pick (.r 4) (.c (.bool true)) (.r 7), none⟩,
     ⟨.mv (.r 8), none⟩] [] [] [(8, 9, none)])
   (.cond (.s 8) (.ret)
    (.seq (.reg [⟨.mv (.s 3), none⟩,
      ⟨.mv (.s 2), none⟩,
      ⟨.off 4 (.s 4), none⟩,
      ⟨.load 0 false 1 (.r 2), none⟩,
      ⟨.i2i .u64 (.r 3), none⟩,
      ⟨.bin .add (.r 1) (.r 4), none⟩,
      ⟨.bin .eql (.r 0) (.r 5), none⟩,
      ⟨.mv (.r 6), none⟩] [] [] [(9, 7, none)])
    (.cond (.s 9) (.reg [⟨.mv (.s 5), none⟩,
       ⟨.mv (.s 5), none⟩,
       ⟨.nilck (.r 1), none⟩,
       ⟨.load 0 false 1 (.r 2), none⟩,
       ⟨.bin .add (.r 3) (.c (.int .i64 1)), none⟩,
       ⟨.min [(.r 4), (.c (.int .i64 3))], none⟩,
       ⟨.nilck (.r 0), none⟩,
       ⟨.store 0 1 (.r 6) (.r 5), none⟩] [] [] [])
     (.reg [⟨.mv (.s 5), none⟩,
       ⟨.mv (.s 5), none⟩,
       ⟨.nilck (.r 1), none⟩,
       ⟨.load 0 false 1 (.r 2), none⟩,
       ⟨.bin .sub (.r 3) (.c (.int .i64 1)), none⟩,
       ⟨.max [(.r 4), (.c (.int .i64 0))], none⟩,
       ⟨.nilck (.r 0), none⟩,
       ⟨.store 0 1 (.r 6) (.r 5), none⟩] [] [] []))))))))))⟩
/-- 10: (*undertow/guess.Guess).Counter -/
def h10 : Vm.Hint := ⟨[0, 1, 4, 6], [], [], [[0], [0, 0], [0], [0, 0, 0, 0, 0, 0, 0, 0]]⟩
def ir_guess_Guess_Counter : Vm.Fn := ⟨[0, 1, 4, 6], 0, 0, [.slot 2],
 .seq (.reg [⟨.mv (.c (.int .i64 0)), none⟩] [] [] [(2, 0, none)])
 (.seq (.seq (.reg [⟨.mv (.s 0), none⟩,
   ⟨.eqn .ptr false (.r 0) (.c (.nilp)), none⟩] [] [] [(3, 1, none)])
 (.cond (.s 3) (.seq (.reg [⟨.mv (.c (.int .i64 0)), none⟩] [] [] [(2, 0, none)])
  (.ret))
  (.skip)))
 (.seq (.reg [⟨.mv (.s 0), none⟩,
   ⟨.mv (.s 1), none⟩,
   ⟨.call .val n_guess_place [(.r 1)], none⟩,
   ⟨.nilck (.r 0), none⟩,
   ⟨.off 32 (.r 3), none⟩,
   ⟨.iaA 16 1 (.r 4) (.r 2), none⟩,
   ⟨.load 0 false 1 (.r 5), none⟩,
   ⟨.mv (.r 6), none⟩] [] [] [(2, 7, none)])
 (.ret)))⟩
/-- 11: undertow/undertowref14.Counter -/
def h11 : Vm.Hint := ⟨[0, 1, 4, 5, 6, 7, 11, 38, 48, 50, 54], [7], [], [[0], [0], [0], [0, 0, 0, 0], [0, 0, 0], [0, 0, 0, 0, 1, 0], [0, 0, 0, 0, 0, 0, 0, 0, 0, 0, 0, 0, 0, 0, 0, 0, 0, 0, 0, 0, 0], [0, 0, 0, 0, 0, 0, 0, 0, 0, 0], [0, 0], [0, 0, 0], [0, 0], [0, 0, 0], [0, 0]]⟩
def ir_undertowref14_Counterl0 : C :=
 .seq (.seq (.reg [⟨.mv (.s 4), none⟩,
   ⟨.mv (.s 0), none⟩,
   ⟨.len 1 (.r 1), none⟩,
   ⟨.bin .lss (.r 0) (.r 2), none⟩] [] [] [(6, 3, none)])
 (.cond (.s 6) (.skip)
  (.exit 0)))
 (.seq (.block 1 (.seq (.reg [⟨.mv (.s 0), none⟩,
    ⟨.mv (.s 4), none⟩,
    ⟨.iaS 11 (.r 0) (.r 1), none⟩,
    ⟨.load 0 true 11 (.r 2), none⟩,
    ⟨.lalloc 0 [.int .i64 0, .int .i64 0, .int .i64 0, .int .i64 0, .int .i64 0, .bool false, .bool false, .int .i64 0, .int .i64 0, .int .u64 0, .int .u64 0], none⟩,
    ⟨.store 0 11 (.r 4) (.r 3), none⟩] [(true, 0)] [] [(5, 4, some 1)])
  (.seq (.seq (.reg [⟨.off 9 (.s 5), none⟩,
    ⟨.load 0 false 1 (.r 0), none⟩,
    ⟨.bin .quo (.r 1) (.c (.int .u64 4)), none⟩,
    ⟨.bin .rem (.r 2) (.c (.int .u64 16)), none⟩,
    ⟨.mv (.s 1), none⟩,
    ⟨.bin .quo (.r 4) (.c (.int .u64 4)), none⟩,
    ⟨.bin .rem (.r 5) (.c (.int .u64 16)), none⟩,
    ⟨.bin .neq (.r 3) (.r 6), none⟩,
    ⟨.mv (.r 7), none⟩,
    ⟨.off 0 (.s 5), some (8, false)⟩,
    ⟨.off 0 (.r 9), some (8, false)⟩,
    ⟨.load 0 false 1 (.r 10), some (8, false)⟩,
    ⟨.call .val n_undertowref05_Sort [(.r 11)], some (8, false)⟩,
    ⟨.bin .neq (.r 12) (.c (.int .i64 3)), some (8, false)⟩,
    ⟨.pick (.r 8) (.c (.bool true)) (.r 13), none⟩,
    ⟨.mv (.r 14), none⟩,
    ⟨.off 0 (.s 5), some (15, false)⟩,
    ⟨.off 4 (.r 16), some (15, false)⟩,
    ⟨.load 0 false 1 (.r 17), some (15, false)⟩,
    ⟨.bin .eql (.r 18) (.c (.int .i64 4)), some (15, false)⟩,
    ⟨.pick (.r 15) (.c (.bool true)) (.r 19), none⟩] [] [] [(7, 20, none)])
  (.cond (.s 7) (.exit 1)
   (.skip)))
  (.seq (.reg [⟨.off 10 (.s 5), none⟩,
    ⟨.load 0 false 1 (.r 0), none⟩,
    ⟨.off 9 (.s 5), none⟩,
    ⟨.load 0 false 1 (.r 2), none⟩,
    ⟨.off 0 (.s 5), none⟩,
    ⟨.off 4 (.r 4), none⟩,
    ⟨.load 0 false 1 (.r 5), none⟩,
    ⟨.i2i .u64 (.r 6), none⟩,
    ⟨.bin .add (.r 3) (.r 7), none⟩,
    ⟨.bin .eql (.r 1) (.r 8), none⟩] [] [] [(8, 9, none)])
  (.cond (.s 8) (.seq (.reg [⟨.mv (.s 3), none⟩,
     ⟨.bin .lss (.r 0) (.c (.int .i64 3)), none⟩] [] [] [(9, 1, none)])
   (.cond (.s 9) (.reg [⟨.mv (.s 3), none⟩,
      ⟨.bin .add (.r 0) (.c (.int .i64 1)), none⟩,
      ⟨.mv (.r 1), none⟩] [] [] [(3, 2, none)])
    (.skip)))
   (.seq (.reg [⟨.mv (.s 3), none⟩,
     ⟨.bin .gtr (.r 0) (.c (.int .i64 0)), none⟩] [] [] [(10, 1, none)])
   (.cond (.s 10) (.reg [⟨.mv (.s 3), none⟩,
      ⟨.bin .sub (.r 0) (.c (.int .i64 1)), none⟩,
      ⟨.mv (.r 1), none⟩] [] [] [(3, 2, none)])
    (.skip))))))))
 (.reg [⟨.mv (.s 4), none⟩,
   ⟨.bin .add (.r 0) (.c (.int .i64 1)), none⟩,
   ⟨.mv (.r 1), none⟩] [] [] [(4, 2, none)]))
def ir_undertowref14_Counter : Vm.Fn := ⟨[0, 1, 4, 5, 6, 7, 11, 38, 48, 50, 54], 1, 0, [.slot 2],
 .seq (.reg [⟨.mv (.c (.int .i64 0)), none⟩] [] [] [(2, 0, none)])
 (.seq (.reg [⟨.mv (.c (.int .i64 1)), none⟩] [] [] [(3, 0, none)])
 (.seq (.seq (.reg [⟨.mv (.c (.int .i64 0)), none⟩] [] [] [(4, 0, none)])
 (.block 0 (.loop ir_undertowref14_Counterl0)))
 (.seq (.reg [⟨.mv (.s 3), none⟩,
   ⟨.mv (.r 0), none⟩] [] [] [(2, 1, none)])
 (.ret))))⟩
/-- 12: undertow/ops.Sort -/
def h12 : Vm.Hint := ⟨[0, 2, 3, 10, 13, 16, 19, 22, 25, 28, 31, 34, 37, 40], [], [], [[0], [0, 0, 0, 0, 0, 0, 0], [0], [0, 0, 0], [0], [0, 0, 0], [0], [0, 0, 0], [0], [0, 0, 0], [0], [0, 0, 0], [0], [0, 0, 0], [0], [0, 0, 0], [0], [0, 0, 0], [0], [0, 0, 0], [0], [0, 0, 0], [0], [0, 0, 0], [0], [0]]⟩
def ir_ops_Sort : Vm.Fn := ⟨[0, 2, 3, 10, 13, 16, 19, 22, 25, 28, 31, 34, 37, 40], 0, 0, [.slot 1],
 .seq (.reg [⟨.mv (.c (.int .i64 0)), none⟩] [] [] [(1, 0, none)])
 (.seq (.block 0 (.seq (.reg [⟨.mv (.s 0), none⟩,
    ⟨.bin .lss (.r 0) (.c (.int .i64 1)), none⟩,
    ⟨.mv (.r 1), none⟩,
    ⟨.mv (.s 0), some (2, false)⟩,
    ⟨.bin .gtr (.r 3) (.c (.int .i64 75)), some (2, false)⟩,
    ⟨.pick (.r 2) (.c (.bool true)) (.r 4), none⟩,
    ⟨.mv (.r 5), none⟩] [] [] [(2, 6, none)])
  (.cond (.s 2) (.seq (.reg [⟨.mv (.c (.int .i64 0)), none⟩] [] [] [(1, 0, none)])
   (.ret))
   (.seq (.reg [⟨.mv (.s 0), none⟩,
     ⟨.bin .leq (.r 0) (.c (.int .i64 2)), none⟩,
     ⟨.mv (.r 1), none⟩] [] [] [(3, 2, none)])
   (.cond (.s 3) (.seq (.reg [⟨.mv (.c (.int .i64 1)), none⟩] [] [] [(1, 0, none)])
    (.ret))
    (.seq (.reg [⟨.mv (.s 0), none⟩,
      ⟨.bin .leq (.r 0) (.c (.int .i64 4)), none⟩,
      ⟨.mv (.r 1), none⟩] [] [] [(4, 2, none)])
    (.cond (.s 4) (.seq (.reg [⟨.mv (.c (.int .i64 2)), none⟩] [] [] [(1, 0, none)])
     (.ret))
     (.seq (.reg [⟨.mv (.s 0), none⟩,
       ⟨.bin .leq (.r 0) (.c (.int .i64 10)), none⟩,
       ⟨.mv (.r 1), none⟩] [] [] [(5, 2, none)])
     (.cond (.s 5) (.seq (.reg [⟨.mv (.c (.int .i64 3)), none⟩] [] [] [(1, 0, none)])
      (.ret))
      (.seq (.reg [⟨.mv (.s 0), none⟩,
        ⟨.bin .leq (.r 0) (.c (.int .i64 17)), none⟩,
        ⟨.mv (.r 1), none⟩] [] [] [(6, 2, none)])
      (.cond (.s 6) (.seq (.reg [⟨.mv (.c (.int .i64 4)), none⟩] [] [] [(1, 0, none)])
       (.ret))
       (.seq (.reg [⟨.mv (.s 0), none⟩,
         ⟨.bin .leq (.r 0) (.c (.int .i64 21)), none⟩,
         ⟨.mv (.r 1), none⟩] [] [] [(7, 2, none)])
       (.cond (.s 7) (.seq (.reg [⟨.mv (.c (.int .i64 5)), none⟩] [] [] [(1, 0, none)])
        (.ret))
        (.seq (.reg [⟨.mv (.s 0), none⟩,
          ⟨.bin .leq (.r 0) (.c (.int .i64 34)), none⟩,
          ⟨.mv (.r 1), none⟩] [] [] [(8, 2, none)])
        (.cond (.s 8) (.seq (.reg [⟨.mv (.c (.int .i64 6)), none⟩] [] [] [(1, 0, none)])
         (.ret))
         (.seq (.reg [⟨.mv (.s 0), none⟩,
           ⟨.bin .leq (.r 0) (.c (.int .i64 49)), none⟩,
           ⟨.mv (.r 1), none⟩] [] [] [(9, 2, none)])
         (.cond (.s 9) (.seq (.reg [⟨.mv (.c (.int .i64 7)), none⟩] [] [] [(1, 0, none)])
          (.ret))
          (.seq (.reg [⟨.mv (.s 0), none⟩,
            ⟨.bin .leq (.r 0) (.c (.int .i64 51)), none⟩,
            ⟨.mv (.r 1), none⟩] [] [] [(10, 2, none)])
          (.cond (.s 10) (.seq (.reg [⟨.mv (.c (.int .i64 8)), none⟩] [] [] [(1, 0, none)])
           (.ret))
           (.seq (.reg [⟨.mv (.s 0), none⟩,
             ⟨.bin .leq (.r 0) (.c (.int .i64 53)), none⟩,
             ⟨.mv (.r 1), none⟩] [] [] [(11, 2, none)])
           (.cond (.s 11) (.seq (.reg [⟨.mv (.c (.int .i64 9)), none⟩] [] [] [(1, 0, none)])
            (.ret))
            (.seq (.reg [⟨.mv (.s 0), none⟩,
              ⟨.bin .leq (.r 0) (.c (.int .i64 55)), none⟩,
              ⟨.mv (.r 1), none⟩] [] [] [(12, 2, none)])
            (.cond (.s 12) (.seq (.reg [⟨.mv (.c (.int .i64 10)), none⟩] [] [] [(1, 0, none)])
             (.ret))
             (.seq (.reg [⟨.mv (.s 0), none⟩,
               ⟨.bin .leq (.r 0) (.c (.int .i64 57)), none⟩,
               ⟨.mv (.r 1), none⟩] [] [] [(13, 2, none)])
             (.cond (.s 13) (.seq (.reg [⟨.mv (.c (.int .i64 11)), none⟩] [] [] [(1, 0, none)])
              (.ret))
              (.skip))))))))))))))))))))))))))
 (.seq (.reg [⟨.mv (.c (.int .i64 12)), none⟩] [] [] [(1, 0, none)])
 (.ret)))⟩
/-- 13: (*undertow/guess.jumps).went -/
def h13 : Vm.Hint := ⟨[0, 1, 4], [4], [], [[1], [0, 0, 0, 0, 0, 0, 0, 0]]⟩
def ir_guess_jumps_went : Vm.Fn := ⟨[0, 1, 4], 1, 0, [.cell 2 true 2],
 .seq (.reg [⟨.lalloc 0 [.int .u64 0, .bool false], none⟩] [(true, 0)] [] [(2, 0, some 1)])
 (.seq (.reg [⟨.mv (.s 0), none⟩,
   ⟨.mv (.s 1), none⟩,
   ⟨.call .val n_guess_place [(.r 1)], none⟩,
   ⟨.nilck (.r 0), none⟩,
   ⟨.off 0 (.r 3), none⟩,
   ⟨.iaA 16 2 (.r 4) (.r 2), none⟩,
   ⟨.load 0 true 2 (.r 5), none⟩,
   ⟨.store 0 2 (.s 2) (.r 6), none⟩] [] [] [])
 (.ret))⟩
/-- 14: undertow/undertowref05.Sort -/
def h14 : Vm.Hint := ⟨[0, 2, 3, 4, 7, 11, 19], [], [], [[0], [0, 0], [0, 0], [0], [0], [0, 0, 0, 0], [0, 0, 0], [0, 0, 0, 0, 0, 0], [0, 0, 0], [0, 0, 0, 0, 0, 0, 0], [0]]⟩
def ir_undertowref05_Sortl0 : C :=
 .seq (.seq (.reg [⟨.mv (.s 3), none⟩,
   ⟨.mv (.s 2), none⟩,
   ⟨.len 1 (.r 1), none⟩,
   ⟨.bin .lss (.r 0) (.r 2), none⟩] [] [] [(5, 3, none)])
 (.cond (.s 5) (.skip)
  (.exit 0)))
 (.seq (.block 1 (.seq (.seq (.reg [⟨.mv (.s 0), none⟩,
    ⟨.mv (.s 2), none⟩,
    ⟨.mv (.s 3), none⟩,
    ⟨.iaS 1 (.r 1) (.r 2), none⟩,
    ⟨.load 0 false 1 (.r 3), none⟩,
    ⟨.bin .leq (.r 0) (.r 4), none⟩] [] [] [(6, 5, none)])
  (.cond (.s 6) (.seq (.reg [⟨.mv (.s 3), none⟩,
     ⟨.bin .add (.r 0) (.c (.int .i64 1)), none⟩,
     ⟨.mv (.r 1), none⟩] [] [] [(1, 2, none)])
   (.ret))
   (.skip)))
  (.reg [⟨.mv (.s 0), none⟩,
    ⟨.mv (.s 2), none⟩,
    ⟨.mv (.s 3), none⟩,
    ⟨.iaS 1 (.r 1) (.r 2), none⟩,
    ⟨.load 0 false 1 (.r 3), none⟩,
    ⟨.bin .sub (.r 0) (.r 4), none⟩,
    ⟨.mv (.r 5), none⟩] [] [] [(0, 6, none)])))
 (.reg [⟨.mv (.s 3), none⟩,
   ⟨.bin .add (.r 0) (.c (.int .i64 1)), none⟩,
   ⟨.mv (.r 1), none⟩] [] [] [(3, 2, none)]))
def ir_undertowref05_Sort : Vm.Fn := ⟨[0, 2, 3, 4, 7, 11, 19], 0, 0, [.slot 1],
 .seq (.reg [⟨.mv (.c (.int .i64 0)), none⟩] [] [] [(1, 0, none)])
 (.seq (.reg [⟨.lit 0 1 [[.int .i64 0], [.int .i64 0], [.int .i64 0], [.int .i64 0], [.int .i64 0], [.int .i64 0], [.int .i64 0], [.int .i64 0], [.int .i64 0], [.int .i64 0], [.int .i64 0], [.int .i64 0]] [(0, (.c (.int .i64 2))), (1, (.c (.int .i64 2))), (2, (.c (.int .i64 6))), (3, (.c (.int .i64 7))), (4, (.c (.int .i64 4))), (5, (.c (.int .i64 13))), (6, (.c (.int .i64 15))), (7, (.c (.int .i64 2))), (8, (.c (.int .i64 2))), (9, (.c (.int .i64 2))), (10, (.c (.int .i64 2))), (11, (.c (.int .i64 18)))], none⟩,
   ⟨.mv (.r 0), none⟩] [] [] [(2, 1, none)])
 (.seq (.seq (.reg [⟨.mv (.s 0), none⟩,
   ⟨.bin .lss (.r 0) (.c (.int .i64 1)), none⟩] [] [] [(4, 1, none)])
 (.cond (.s 4) (.seq (.reg [⟨.mv (.c (.int .i64 0)), none⟩] [] [] [(1, 0, none)])
  (.ret))
  (.skip)))
 (.seq (.seq (.reg [⟨.mv (.c (.int .i64 0)), none⟩] [] [] [(3, 0, none)])
 (.block 0 (.loop ir_undertowref05_Sortl0)))
 (.seq (.reg [⟨.mv (.c (.int .i64 0)), none⟩] [] [] [(1, 0, none)])
 (.ret)))))⟩
/-- 15: undertow/guess.place -/
def h15 : Vm.Hint := ⟨[0, 2], [], [], [[0], [0, 0, 0, 0, 0]]⟩
def ir_guess_place : Vm.Fn := ⟨[0, 2], 0, 0, [.slot 1],
 .seq (.reg [⟨.mv (.c (.int .i64 0)), none⟩] [] [] [(1, 0, none)])
 (.seq (.reg [⟨.mv (.s 0), none⟩,
   ⟨.bin .quo (.r 0) (.c (.int .u64 4)), none⟩,
   ⟨.bin .rem (.r 1) (.c (.int .u64 16)), none⟩,
   ⟨.i2i .i64 (.r 2), none⟩,
   ⟨.mv (.r 3), none⟩] [] [] [(1, 4, none)])
 (.ret))⟩
def hints (f : Nat) : Option Vm.Hint := if f < 9 then (if f < 6 then (if f < 4 then (if f = 3 then some h3 else none) else (if f < 5 then (if f = 4 then some h4 else none) else (if f = 5 then some h5 else none))) else (if f < 7 then (if f = 6 then some h6 else none) else (if f < 8 then (if f = 7 then some h7 else none) else (if f = 8 then some h8 else none)))) else (if f < 12 then (if f < 10 then (if f = 9 then some h9 else none) else (if f < 11 then (if f = 10 then some h10 else none) else (if f = 11 then some h11 else none))) else (if f < 14 then (if f < 13 then (if f = 12 then some h12 else none) else (if f = 13 then some h13 else none)) else (if f < 15 then (if f = 14 then some h14 else none) else (if f = 15 then some h15 else none))))
noncomputable abbrev pg : Vm.Pg := pgOf Go.Proofs.Try.prog hints
theorem fn_undertowlaw14_GuessPlays : pg.fn 3 = some ir_undertowlaw14_GuessPlays := by kernel_rfl
theorem fn_undertowlaw14_GuessTwice : pg.fn 4 = some ir_undertowlaw14_GuessTwice := by kernel_rfl
theorem fn_undertowlaw14_alive : pg.fn 5 = some ir_undertowlaw14_alive := by kernel_rfl
theorem fn_guess_New : pg.fn 6 = some ir_guess_New := by kernel_rfl
theorem fn_guess_Guess_Next : pg.fn 7 = some ir_guess_Guess_Next := by kernel_rfl
theorem fn_undertowref14_Next : pg.fn 8 = some ir_undertowref14_Next := by kernel_rfl
theorem fn_guess_Guess_Train : pg.fn 9 = some ir_guess_Guess_Train := by kernel_rfl
theorem fn_guess_Guess_Counter : pg.fn 10 = some ir_guess_Guess_Counter := by kernel_rfl
theorem fn_undertowref14_Counter : pg.fn 11 = some ir_undertowref14_Counter := by kernel_rfl
theorem fn_ops_Sort : pg.fn 12 = some ir_ops_Sort := by kernel_rfl
theorem fn_guess_jumps_went : pg.fn 13 = some ir_guess_jumps_went := by kernel_rfl
theorem fn_undertowref05_Sort : pg.fn 14 = some ir_undertowref05_Sort := by kernel_rfl
theorem fn_guess_place : pg.fn 15 = some ir_guess_place := by kernel_rfl
def irL : List (Nat × Vm.Fn) := [(3, ir_undertowlaw14_GuessPlays), (4, ir_undertowlaw14_GuessTwice), (5, ir_undertowlaw14_alive), (6, ir_guess_New), (7, ir_guess_Guess_Next), (8, ir_undertowref14_Next), (9, ir_guess_Guess_Train), (10, ir_guess_Guess_Counter), (11, ir_undertowref14_Counter), (12, ir_ops_Sort), (13, ir_guess_jumps_went), (14, ir_undertowref05_Sort), (15, ir_guess_place)]
theorem irL_ok : ∀ q ∈ irL, pg.fn q.1 = some q.2 := by
  simp only [irL, List.forall_mem_cons]
  exact ⟨fn_undertowlaw14_GuessPlays, fn_undertowlaw14_GuessTwice, fn_undertowlaw14_alive, fn_guess_New, fn_guess_Guess_Next, fn_undertowref14_Next, fn_guess_Guess_Train, fn_guess_Guess_Counter, fn_undertowref14_Counter, fn_ops_Sort, fn_guess_jumps_went, fn_undertowref05_Sort, fn_guess_place, by simp⟩
end Go.Proofs.Ytjfcjoiglkfaaaa
