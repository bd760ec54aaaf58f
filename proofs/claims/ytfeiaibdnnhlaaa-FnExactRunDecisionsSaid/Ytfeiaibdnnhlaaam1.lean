import Derived.Test.Ytfeiaibdnnhlaaat3
/- The values of the program, plainly. -/
set_option linter.unusedVariables false
set_option linter.unusedSimpArgs false
namespace Go.Proofs.Ytfeiaibdnnhlaaa

structure Route where
  number : Int
  low : ByteArray
  high : ByteArray
  deriving DecidableEq

structure Plan where
  kind : Int
  first : Int
  second : Int
  key : ByteArray
  src : Int
  dst : Int
  step : Int
  deriving DecidableEq

structure Master where
  routes : List Route
  shards : Int
  work : Plan
  turn : Int
  deriving DecidableEq

structure Decision where
  kind : Int
  begun : Plan
  deriving DecidableEq

def Route.pv (r : Route) : List PV := [.int .i64 r.number, .str r.low, .str r.high]
def Plan.pv (p : Plan) : List PV := [.int .i64 p.kind, .int .i64 p.first, .int .i64 p.second, .str p.key, .int .i64 p.src, .int .i64 p.dst, .int .i64 p.step]
/-- A plan's cells. -/
def Plan.av (p : Plan) : List AV := [.d (.int .i64 p.kind), .d (.int .i64 p.first), .d (.int .i64 p.second), .d (.str p.key), .d (.int .i64 p.src), .d (.int .i64 p.dst), .d (.int .i64 p.step)]
def Route.av (r : Route) : List AV := [.d (.int .i64 r.number), .d (.str r.low), .d (.str r.high)]

theorem take_step {α : Type} {xs ys : List α} {i : Nat} (h : xs.take i = ys.take i) (hi : i < xs.length) (hj : i < ys.length) (he : xs[i] = ys[i]) : xs.take (i + 1) = ys.take (i + 1) := by
  rw [List.take_succ_eq_append_getElem hi, List.take_succ_eq_append_getElem hj, h, he]

theorem take_done {α : Type} {xs ys : List α} {i : Nat} (h : xs.take i = ys.take i) (hi : xs.length ≤ i) (hl : xs.length = ys.length) : xs = ys := by
  rw [List.take_of_length_le hi, List.take_of_length_le (by omega)] at h
  exact h

theorem ne_at {α : Type} {xs ys : List α} {i : Nat} (hi : i < xs.length) (hj : i < ys.length) (h : ¬ xs[i] = ys[i]) : ¬ xs = ys := fun e => by subst e; exact h rfl

end Go.Proofs.Ytfeiaibdnnhlaaa
