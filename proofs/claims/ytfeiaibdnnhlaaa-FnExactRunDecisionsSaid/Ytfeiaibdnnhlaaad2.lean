import Derived.Test.Ytfeiaibdnnhlaaad1
/- What the functions do, plainly: keys, intervals, partitions, routes, plans, masters. -/
set_option linter.unusedVariables false
set_option linter.unusedSimpArgs false
namespace Go.Proofs.Ytfeiaibdnnhlaaa

def letters (s : ByteArray) : Bool := (List.range s.size).all fun i => decide (97 ≤ bAt s i) && decide (bAt s i ≤ 122)
def keyOk (s : ByteArray) : Bool := decide (1 ≤ s.size) && decide (s.size ≤ 4) && letters s
def less (a b : ByteArray) : Bool := Op.bytesLess a.toList b.toList
def ivOk (v : Iv) : Bool := (decide (v.low = ⟨#[]⟩) || keyOk v.low) && (decide (v.high = ⟨#[]⟩) || keyOk v.high) && (decide (v.high = ⟨#[]⟩) || less (if v.low = ⟨#[]⟩ then ⟨#[97]⟩ else v.low) v.high)
def joinOk (v w : Iv) : Bool := ivOk v && ivOk w && !decide (v.high = ⟨#[]⟩) && decide (v.high = w.low)
def cutOk (v : Iv) (key : ByteArray) : Bool := ivOk v && keyOk key && ivOk ⟨v.low, key⟩ && ivOk ⟨key, v.high⟩

def joins : List Iv → Bool
  | [] => true
  | [_] => true
  | v :: w :: l => joinOk v w && joins (w :: l)
def ivAt (l : List Iv) (i : Nat) : Iv := l.getD i ⟨⟨#[]⟩, ⟨#[]⟩⟩
def partOk (l : List Iv) : Bool := decide (1 ≤ l.length) && decide (l.length ≤ 6) && decide ((ivAt l 0).low = ⟨#[]⟩) && decide ((ivAt l (l.length - 1)).high = ⟨#[]⟩) && ivOk (ivAt l 0) &&
  (List.range (l.length - 1)).all fun i => joinOk (ivAt l i) (ivAt l (i + 1))

def rIndex (rs : List Route) (x : Int) : Option Nat := rs.findIdx? fun r => decide (r.number = x)
def idx (o : Option Nat) : Int := match o with | some k => k | none => -1
def rAt (l : List Route) (i : Nat) : Route := l.getD i ⟨0, ⟨#[]⟩, ⟨#[]⟩⟩
def numsOk (rs : List Route) : Bool := (List.range rs.length).all fun i => decide (0 ≤ (rAt rs i).number) && decide ((rAt rs i).number < 8) && (List.range i).all fun j => !decide ((rAt rs j).number = (rAt rs i).number)
def routesOk (rs : List Route) : Bool := partOk (rs.map Route.iv) && numsOk rs

def noPlan : Plan := ⟨0, 0, 0, ⟨#[]⟩, 0, 0, 0⟩
def planOk (p : Plan) : Bool := decide (0 ≤ p.first) && decide (p.first ≤ 7) &&
  (decide (p.kind = 1) && (keyOk p.key && decide (p.second = 0) && decide (p.src = 0) && decide (p.dst = 0) && decide (p.step = 0)) ||
   decide (p.kind = 2) && (decide (0 ≤ p.second) && decide (p.second ≤ 7) && decide (p.second ≠ p.first) && decide (p.key = ⟨#[]⟩) && decide (p.src = 0) && decide (p.dst = 0) && decide (p.step = 0)) ||
   decide (p.kind = 3) && (decide (0 ≤ p.src) && decide (p.src ≤ 4) && decide (0 ≤ p.dst) && decide (p.dst ≤ 4) && decide (p.src ≠ p.dst) && decide (0 ≤ p.step) && decide (p.step ≤ 1) && decide (p.second = 0) && decide (p.key = ⟨#[]⟩)))
def workOk (p : Plan) (n : Int) : Bool := decide (p = noPlan) || (planOk p && decide (p.first < n) && decide (p.second < n))
def masterOk (m : Master) : Bool := routesOk m.routes && decide (1 ≤ m.shards) && decide (m.shards ≤ 8) && decide (0 ≤ m.turn) && decide (m.turn ≤ 999) && (m.routes.all fun r => decide (r.number < m.shards)) && workOk m.work m.shards

theorem all_range_succ (n : Nat) (p : Nat → Bool) : (List.range (n + 1)).all p = ((List.range n).all p && p n) := by
  simp [List.range_succ]

theorem idx_some {rs : List Route} {x : Int} {i : Nat} (hi : i < rs.length) (h : rs[i].number = x) (hn : ∀ j (hj : j < rs.length), j < i → ¬ rs[j].number = x) : rIndex rs x = some i := by
  unfold rIndex
  rw [List.findIdx?_eq_some_iff_getElem]
  exact ⟨hi, by simpa using h, fun j hj => by simpa using hn j (by omega) hj⟩

theorem idx_none {rs : List Route} {x : Int} (hn : ∀ j (hj : j < rs.length), ¬ rs[j].number = x) : rIndex rs x = none := by
  unfold rIndex
  rw [List.findIdx?_eq_none_iff]
  intro r hr
  obtain ⟨j, h, rfl⟩ := List.getElem_of_mem hr
  simpa using hn j h

theorem ivAt_get {l : List Iv} {i : Nat} (h : i < l.length) : ivAt l i = l[i] := by simp [ivAt, List.getD, h]
theorem rAt_get {l : List Route} {i : Nat} (h : i < l.length) : rAt l i = l[i] := by simp [rAt, List.getD, h]

end Go.Proofs.Ytfeiaibdnnhlaaa
