/- Layer 22: events, and what is said of two (no claim; lemmas). -/
import Derived.Test.YtlkcfhpklibnaaaK22a
set_option linter.unusedSimpArgs false
set_option linter.unusedVariables false
namespace Go.Proofs.Ytlkcfhpklibnaaa
open Go Go.Vm

structure Ev where
  (hart at' : Nat) (r : Rt)
def adE (r : Rt) : Int := if r.addr ≤ 1024 then r.addr else -1
def evC (e : Ev) : List V := .int .i64 (e.hart : Int) :: .int .i64 (e.at' : Int) :: (rC e.r ++ [.bool (lod e.r.ins.op), .bool (sto e.r.ins.op), .int .i64 (adE e.r), .int .i64 (szO e.r.ins.op : Nat)])
theorem evC_len (e : Ev) : (evC e).length = 33 := rfl
theorem evC_hart (e : Ev) (h : 0 < (evC e).length) : (evC e)[0] = .int .i64 (e.hart : Int) := rfl
theorem evCq_hart (e : Ev) : (evC e)[0]? = some (.int .i64 (e.hart : Int)) := rfl
theorem evC_at (e : Ev) (h : 1 < (evC e).length) : (evC e)[1] = .int .i64 (e.at' : Int) := rfl
theorem evCq_at (e : Ev) : (evC e)[1]? = some (.int .i64 (e.at' : Int)) := rfl
theorem evC_op (e : Ev) (h : 3 < (evC e).length) : (evC e)[3] = .int .i64 e.r.ins.op := rfl
theorem evCq_op (e : Ev) : (evC e)[3]? = some (.int .i64 e.r.ins.op) := rfl
theorem evC_aq (e : Ev) (h : 8 < (evC e).length) : (evC e)[8] = .bool e.r.ins.aq := rfl
theorem evCq_aq (e : Ev) : (evC e)[8]? = some (.bool e.r.ins.aq) := rfl
theorem evC_rl (e : Ev) (h : 9 < (evC e).length) : (evC e)[9] = .bool e.r.ins.rl := rfl
theorem evCq_rl (e : Ev) : (evC e)[9]? = some (.bool e.r.ins.rl) := rfl
theorem evC_id (e : Ev) (h : 18 < (evC e).length) : (evC e)[18] = .int .i64 e.r.id := rfl
theorem evCq_id (e : Ev) : (evC e)[18]? = some (.int .i64 e.r.id) := rfl
theorem evC_pair (e : Ev) (h : 28 < (evC e).length) : (evC e)[28] = .int .i64 e.r.pair := rfl
theorem evCq_pair (e : Ev) : (evC e)[28]? = some (.int .i64 e.r.pair) := rfl
theorem evC_ld (e : Ev) (h : 29 < (evC e).length) : (evC e)[29] = .bool (lod e.r.ins.op) := rfl
theorem evCq_ld (e : Ev) : (evC e)[29]? = some (.bool (lod e.r.ins.op)) := rfl
theorem evC_st (e : Ev) (h : 30 < (evC e).length) : (evC e)[30] = .bool (sto e.r.ins.op) := rfl
theorem evCq_st (e : Ev) : (evC e)[30]? = some (.bool (sto e.r.ins.op)) := rfl
theorem evC_ad (e : Ev) (h : 31 < (evC e).length) : (evC e)[31] = .int .i64 (adE e.r) := rfl
theorem evCq_ad (e : Ev) : (evC e)[31]? = some (.int .i64 (adE e.r)) := rfl
theorem evC_sz (e : Ev) (h : 32 < (evC e).length) : (evC e)[32] = .int .i64 (szO e.r.ins.op : Nat) := rfl
theorem evCq_sz (e : Ev) : (evC e)[32]? = some (.int .i64 (szO e.r.ins.op : Nat)) := rfl
theorem evC_take (e : Ev) : (evC e).take 33 = evC e := rfl
theorem evC_drop (e : Ev) : (evC e).drop 33 = [] := rfl
theorem evC_r (e : Ev) : ((evC e).drop 2).take 27 = rC e.r := rfl
theorem rC_drop (r : Rt) : (rC r).drop 27 = [] := rfl
attribute [go_sem] evC_len evC_hart evCq_hart evC_at evCq_at evC_op evCq_op evC_aq evCq_aq evC_rl evCq_rl evC_id evCq_id evC_pair evCq_pair evC_ld evCq_ld evC_st evCq_st evC_ad evCq_ad evC_sz evCq_sz evC_take evC_drop evC_r rC_drop rC_take rC_in
/-- Stores, loads. -/
abbrev Ev.st (e : Ev) : Bool := sto e.r.ins.op
abbrev Ev.ld (e : Ev) : Bool := lod e.r.ins.op
def ovE (a b : Ev) : Bool := ovl (adE a.r) (szO a.r.ins.op : Nat) (adE b.r) (szO b.r.ins.op : Nat)
def hasE (e : Ev) (at_ : Int) : Bool := ovl (adE e.r) (szO e.r.ins.op : Nat) at_ 1
def strE (e : Ev) : Bool := e.r.ins.aq || e.r.ins.rl
/-- Does it return what a number's store wrote? -/
def tgs (e : Ev) : List Int := (List.range (szO e.r.ins.op)).map e.r.tg
def retE (e : Ev) (id : Int) : Bool := lod e.r.ins.op && (tgs e).contains id
end Go.Proofs.Ytlkcfhpklibnaaa
