import Derived.Orders
import Derived.Laws.AppendOwn
import Derived.RowKit3
/- The abstract interpreter, part 1: abstract values, ghost, relations to the machine's memory, and how they are kept. -/
set_option linter.unusedVariables false
set_option linter.unusedSimpArgs false
namespace Go.Proofs.Ytfeiaibdnnhlaaa

/-- Plain data: one cell. A slice is told by its elements, each a list of cells. -/
inductive PV where
  | int (k : IntKind) (n : Int)
  | bool (b : Bool)
  | str (s : ByteArray)
  | ls (xs : List (List PV))
  deriving Inhabited

/-- Abstract values. -/
inductive AV where
  | undef
  | non
  | nil
  | d (p : PV)
  | tv (b g : Nat) (xs : List (List PV))
  | sl (b : Nat)
  | ref (b off : Nat)
  | el (b i off : Nat)
  | vel (src : Option (Nat × Nat)) (cells : List PV) (off : Nat)
  | agg (cs : List AV)
  | tup (vs : List AV)
  | fn (f : FuncId) (cap : List AV)
  deriving Inhabited

/-- Abstract blocks. -/
inductive AB where
  | fut
  | gone
  | sv (cells : List AV)
  | ar (e g : Nat) (xs : List (List PV))
  deriving Inhabited

inductive St where
  | ro
  | own (b : Nat) (l : Option (Nat × Nat))

/-- The ghost: who owns a block of memory; where an abstract block lies; its capacity; which blocks may be read for ever. -/
structure Gh where
  st : Nat → St
  loc : Nat → Option Nat
  cap : Nat → Nat
  ok : Nat → Prop

def lk (mem : List AB) (b : Nat) : AB := mem.getD b .fut

inductive RO (w : World) (ok : Nat → Prop) : PV → Value → Prop
  | int (k : IntKind) (n : Int) : RO w ok (.int k n) (.int k n)
  | bool (b : Bool) : RO w ok (.bool b) (.bool b)
  | str (s : ByteArray) : RO w ok (.str s) (.string s)
  | nil (a : Option Addr) (c : Nat) : RO w ok (.ls []) (.slice a 0 c)
  | ls (e : Nat) (xs : List (List PV)) (q o c : Nat) (vs : Nat → Nat → Value) (hok : ok q)
      (hw : ∀ (i : Nat) (x : List PV), xs[i]? = some x → x.length = e)
      (hc : ∀ (i : Nat) (x : List PV) (j : Nat) (p : PV), xs[i]? = some x → x[j]? = some p → w.cell? ⟨q, o + i * e + j, none⟩ = some (vs i j))
      (hr : ∀ (i : Nat) (x : List PV) (j : Nat) (p : PV), xs[i]? = some x → x[j]? = some p → RO w ok p (vs i j))
      (hn : xs.length ≤ c) :
      RO w ok (.ls xs) (.slice (some ⟨q, o, none⟩) xs.length c)

theorem RO.mono {w w' : World} {ok ok' : Nat → Prop} {p : PV} {v : Value} (h : RO w ok p v) (hok : ∀ q, ok q → ok' q)
    (hh : ∀ q, ok q → ∀ o u, w.cell? ⟨q, o, none⟩ = some u → w'.cell? ⟨q, o, none⟩ = some u) : RO w' ok' p v := by
  induction h with
  | int k n => exact .int k n
  | bool b => exact .bool b
  | str s => exact .str s
  | nil a c => exact .nil a c
  | ls e xs q o c vs h1 hw hc hr hn ih =>
    exact .ls e xs q o c vs (hok q h1) hw (fun i x j p a b => hh q h1 _ _ (hc i x j p a b)) (fun i x j p a b => ih i x j p a b) hn

/-- Data that an abstract block owns, seen from the cell that holds it. -/
inductive OW (w : World) (st : Nat → St) (b : Nat) : Nat × Nat → PV → Value → Prop
  | int (l : Nat × Nat) (k : IntKind) (n : Int) : OW w st b l (.int k n) (.int k n)
  | bool (l : Nat × Nat) (x : Bool) : OW w st b l (.bool x) (.bool x)
  | str (l : Nat × Nat) (s : ByteArray) : OW w st b l (.str s) (.string s)
  | nil (l : Nat × Nat) (a : Option Addr) (c : Nat) : OW w st b l (.ls []) (.slice a 0 c)
  | ls (l : Nat × Nat) (e : Nat) (xs : List (List PV)) (q c : Nat) (cs : Array Value) (t : TypeId) (vs : Nat → Nat → Value)
      (hst : st q = .own b (some l)) (hq : w.heap[q]? = some (.cells cs t (0, 0))) (hcs : cs.size = c * e) (hn : xs.length ≤ c) (hm : c ≤ maxLen)
      (h1 : ∀ v ∈ cs.toList, v.oneCell' = true)
      (hw : ∀ (i : Nat) (x : List PV), xs[i]? = some x → x.length = e)
      (hc : ∀ (i : Nat) (x : List PV) (j : Nat) (p : PV), xs[i]? = some x → x[j]? = some p → cs[i * e + j]? = some (vs i j))
      (hr : ∀ (i : Nat) (x : List PV) (j : Nat) (p : PV), xs[i]? = some x → x[j]? = some p → OW w st b (q, i * e + j) p (vs i j)) :
      OW w st b l (.ls xs) (.slice (some ⟨q, 0, none⟩) xs.length c)

theorem OW.move {w w' : World} {st st' : Nat → St} {b b' : Nat} {l : Nat × Nat} {p : PV} {v : Value} (φ : Nat × Nat → Nat × Nat) (h : OW w st b l p v)
    (hs : ∀ q l, st q = .own b (some l) → st' q = .own b' (some (φ l)) ∧ w'.heap[q]? = w.heap[q]? ∧ ∀ j, φ (q, j) = (q, j)) : OW w' st' b' (φ l) p v := by
  induction h with
  | int l k n => exact .int _ k n
  | bool l x => exact .bool _ x
  | str l s => exact .str _ s
  | nil l a c => exact .nil _ a c
  | ls l e xs q c cs t vs hst hq hcs hn hm h1 hw hc hr ih =>
    obtain ⟨a1, a2, a3⟩ := hs q l hst
    refine .ls (φ l) e xs q c cs t vs a1 (a2.trans hq) hcs hn hm h1 hw hc (fun i x j p a c' => ?_)
    have := ih i x j p a c'
    rw [a3] at this
    exact this

theorem OW.keep {w w' : World} {st st' : Nat → St} {b b' : Nat} {l : Nat × Nat} {p : PV} {v : Value} (h : OW w st b l p v)
    (hs : ∀ q l, st q = .own b (some l) → st' q = .own b' (some l) ∧ w'.heap[q]? = w.heap[q]?) : OW w' st' b' l p v :=
  OW.move (fun l => l) h fun q l hq => ⟨(hs q l hq).1, (hs q l hq).2, fun _ => rfl⟩

theorem cell_of_block {w : World} {q i : Nat} {cs : Array Value} {t : TypeId} {f : Nat × Nat} (h : w.heap[q]? = some (.cells cs t f)) :
    w.cell? ⟨q, i, none⟩ = cs[i]? := by simp [World.cell?, h]

theorem OW.ro {w : World} {st : Nat → St} {b : Nat} {l : Nat × Nat} {p : PV} {v : Value} (h : OW w st b l p v) :
    RO w (fun q => ∃ l, st q = .own b l) p v := by
  induction h with
  | int l k n => exact .int k n
  | bool l x => exact .bool x
  | str l s => exact .str s
  | nil l a c => exact .nil a c
  | ls l e xs q c cs t vs hst hq hcs hn hm h1 hw hc hr ih =>
    refine .ls e xs q 0 c vs ⟨_, hst⟩ hw (fun i x j p a b => ?_) (fun i x j p a b => ih i x j p a b) hn
    rw [cell_of_block hq, Nat.zero_add]
    exact hc i x j p a b

theorem OW.oneCell {w : World} {st : Nat → St} {b : Nat} {l : Nat × Nat} {p : PV} {v : Value} (h : OW w st b l p v) : v.oneCell' = true := by
  cases h <;> rfl

theorem RO.oneCell {w : World} {ok : Nat → Prop} {p : PV} {v : Value} (h : RO w ok p v) : v.oneCell' = true := by
  cases h <;> rfl

/-- The slice that an abstract block's owner holds. -/
def hdr (g : Gh) (b n : Nat) : Value :=
  match g.loc b with
  | none => .slice none 0 0
  | some q => .slice (some ⟨q, 0, none⟩) n (g.cap b)

def okB (g : Gh) (b : Nat) : Nat → Prop := fun q => ∃ l, g.st q = .own b l

def slOK (g : Gh) (b : Nat) (v : Value) : AB → Prop
  | .fut => False
  | .gone => True
  | .sv _ => False
  | .ar _ _ xs => v = hdr g b xs.length

def refOK (g : Gh) (b off : Nat) (v : Value) : AB → Prop
  | .fut => False
  | .gone => True
  | .sv _ => ∃ q, g.loc b = some q ∧ v = .pointer (some ⟨q, off, none⟩)
  | .ar _ _ _ => False

def elOK (g : Gh) (b i off : Nat) (v : Value) : AB → Prop
  | .fut => False
  | .gone => True
  | .sv _ => False
  | .ar e _ xs => i < xs.length ∧ ∃ q, g.loc b = some q ∧ v = .pointer (some ⟨q, i * e + off, none⟩)

/-- A view under block b with stamp n is good for 'X' while the block's stamp is n. -/
def viewOK (n : Nat) (X : Prop) : AB → Prop
  | .fut => False
  | .gone => True
  | .sv _ => False
  | .ar _ m _ => n ≤ m ∧ (n = m → X)

/-- A pointer into cells that are told by value. -/
def Cells (w : World) (ok : Nat → Prop) (cells : List PV) (off : Nat) (v : Value) : Prop :=
  ∃ q o, v = .pointer (some ⟨q, o + off, none⟩) ∧ ok q ∧ ∀ (j : Nat) (p : PV), cells[j]? = some p → ∃ u, w.cell? ⟨q, o + j, none⟩ = some u ∧ RO w ok p u

inductive RA (w : World) (g : Gh) (mem : List AB) : AV → Value → Prop
  | undef (v : Value) : RA w g mem .undef v
  | non : RA w g mem .non undef
  | nil : RA w g mem .nil (.slice none 0 0)
  | d (p : PV) (v : Value) (h : RO w g.ok p v) : RA w g mem (.d p) v
  | tv (b n : Nat) (xs : List (List PV)) (v : Value) (h : viewOK n (RO w (okB g b) (.ls xs) v) (lk mem b)) (h1 : v.oneCell' = true) : RA w g mem (.tv b n xs) v
  | sl (b : Nat) (v : Value) (h : slOK g b v (lk mem b)) (h1 : v.oneCell' = true) : RA w g mem (.sl b) v
  | ref (b off : Nat) (v : Value) (h : refOK g b off v (lk mem b)) (h1 : v.oneCell' = true) : RA w g mem (.ref b off) v
  | el (b i off : Nat) (v : Value) (h : elOK g b i off v (lk mem b)) (h1 : v.oneCell' = true) : RA w g mem (.el b i off) v
  | velN (cells : List PV) (off : Nat) (v : Value) (h : Cells w g.ok cells off v) : RA w g mem (.vel none cells off) v
  | velS (b n : Nat) (cells : List PV) (off : Nat) (v : Value) (h : viewOK n (Cells w (okB g b) cells off v) (lk mem b)) (h1 : v.oneCell' = true) : RA w g mem (.vel (some (b, n)) cells off) v
  | agg (cs : List AV) (vs : Array Value) (hl : cs.length = vs.size) (h1 : ∀ v ∈ vs.toList, v.oneCell' = true)
      (h : ∀ (i : Nat) (c : AV) (v : Value), cs[i]? = some c → vs[i]? = some v → RA w g mem c v) : RA w g mem (.agg cs) (.agg vs)
  | tup (cs : List AV) (vs : Array Value) (hl : cs.length = vs.size)
      (h : ∀ (i : Nat) (c : AV) (v : Value), cs[i]? = some c → vs[i]? = some v → RA w g mem c v) : RA w g mem (.tup cs) (.tuple vs)
  | fn (f : FuncId) (cs : List AV) (vs : Array Value) (hl : cs.length = vs.size)
      (h : ∀ (i : Nat) (c : AV) (v : Value), cs[i]? = some c → vs[i]? = some v → RA w g mem c v) : RA w g mem (.fn f cs) (.func (.func f) #[] vs)

/-- What an abstract block says of memory. -/
def BR (w : World) (g : Gh) (mem : List AB) (b : Nat) : AB → Prop
  | .fut => True
  | .gone => True
  | .sv cells => ∃ q cs t, g.loc b = some q ∧ g.st q = .own b none ∧ w.heap[q]? = some (.cells cs t (0, 0)) ∧ cs.size = cells.length ∧
      (∀ v ∈ cs.toList, v.oneCell' = true) ∧ ∀ (j : Nat) (c : AV) (v : Value), cells[j]? = some c → cs[j]? = some v → RA w g mem c v
  | .ar e _ xs => (g.loc b = none ∧ xs = []) ∨
      ∃ q cs t, g.loc b = some q ∧ g.st q = .own b none ∧ w.heap[q]? = some (.cells cs t (0, 0)) ∧ cs.size = g.cap b * e ∧ xs.length ≤ g.cap b ∧ g.cap b ≤ maxLen ∧
        (∀ v ∈ cs.toList, v.oneCell' = true) ∧ (∀ (i : Nat) (x : List PV), xs[i]? = some x → x.length = e) ∧
        ∀ (i : Nat) (x : List PV) (j : Nat) (p : PV), xs[i]? = some x → x[j]? = some p → ∃ v, cs[i * e + j]? = some v ∧ OW w g.st b (q, i * e + j) p v

structure Good (w : World) (g : Gh) (mem : List AB) : Prop where
  ok : ∀ q, g.ok q → g.st q = .ro ∧ q < w.heap.size
  new : ∀ q, w.heap.size ≤ q → g.st q = .ro
  nf : ∀ q b l, g.st q = .own b l → lk mem b ≠ .fut

/-- What a caller keeps: what was nobody's before is as it was; a block that is known lies where it lay. -/
structure Fr (w : World) (g : Gh) (mem : List AB) (w' : World) (g' : Gh) : Prop where
  size : w.heap.size ≤ w'.heap.size
  ro : ∀ q, q < w.heap.size → g.st q = .ro → w'.heap[q]? = w.heap[q]? ∧ g'.st q = .ro ∧ (g'.ok q → g.ok q)
  loc : ∀ b, lk mem b ≠ .fut → g'.loc b = g.loc b ∧ g'.cap b = g.cap b
  os : w'.os = w.os
  out : w'.output = w.output

def RM (w : World) (g : Gh) (mem : List AB) : Prop := ∀ b, BR w g mem b (lk mem b)

/-- What is kept from one state to the next, as far as abstract values need it. -/
structure Keep (w : World) (g : Gh) (mem : List AB) (w' : World) (g' : Gh) (mem' : List AB) : Prop where
  ok : ∀ q, g.ok q → g'.ok q ∧ ∀ o u, w.cell? ⟨q, o, none⟩ = some u → w'.cell? ⟨q, o, none⟩ = some u
  nofut : ∀ b, lk mem b ≠ .fut → lk mem' b ≠ .fut
  sv : ∀ b cells, lk mem b ≠ .fut → lk mem' b = .sv cells → (∃ cells0, lk mem b = .sv cells0) ∧ g'.loc b = g.loc b
  ar : ∀ b e n xs, lk mem b ≠ .fut → lk mem' b = .ar e n xs → ∃ n0 xs0, lk mem b = .ar e n0 xs0 ∧ xs0.length = xs.length ∧ n0 ≤ n ∧
    g'.loc b = g.loc b ∧ g'.cap b = g.cap b ∧
    (n0 = n → ∀ q l, g.st q = .own b l → g'.st q = .own b l ∧ ∀ o u, w.cell? ⟨q, o, none⟩ = some u → w'.cell? ⟨q, o, none⟩ = some u)

theorem viewOK.keep {w w' : World} {g g' : Gh} {mem mem' : List AB} (K : Keep w g mem w' g' mem') {b n : Nat} {X Y : Prop}
    (hXY : X → (∀ q l, g.st q = .own b l → g'.st q = .own b l ∧ ∀ o u, w.cell? ⟨q, o, none⟩ = some u → w'.cell? ⟨q, o, none⟩ = some u) → Y)
    (h : viewOK n X (lk mem b)) : viewOK n Y (lk mem' b) := by
  have hne : lk mem b ≠ .fut := by intro e; rw [e] at h; exact h
  cases h' : lk mem' b with
  | fut => exact K.nofut b hne h'
  | gone => trivial
  | sv cells =>
    obtain ⟨⟨c0, hc0⟩, _⟩ := K.sv b cells hne h'
    rw [hc0] at h; exact h
  | ar e m xs =>
    obtain ⟨n0, xs0, h0, _, hle, _, _, hv⟩ := K.ar b e m xs hne h'
    rw [h0] at h
    obtain ⟨h1, h2⟩ := h
    refine ⟨by omega, fun e => ?_⟩
    have : n = n0 := by omega
    exact hXY (h2 this) (hv (by omega))

theorem Cells.mono {w w' : World} {ok ok' : Nat → Prop} {cells : List PV} {off : Nat} {v : Value} (h : Cells w ok cells off v) (hok : ∀ q, ok q → ok' q)
    (hh : ∀ q, ok q → ∀ o u, w.cell? ⟨q, o, none⟩ = some u → w'.cell? ⟨q, o, none⟩ = some u) : Cells w' ok' cells off v := by
  obtain ⟨q, o, hv, hq, hc⟩ := h
  refine ⟨q, o, hv, hok q hq, fun j p hj => ?_⟩
  obtain ⟨u, hu, hr⟩ := hc j p hj
  exact ⟨u, hh q hq _ _ hu, hr.mono hok hh⟩

theorem RA.keep {w w' : World} {g g' : Gh} {mem mem' : List AB} (K : Keep w g mem w' g' mem') {a : AV} {v : Value} (h : RA w g mem a v) : RA w' g' mem' a v := by
  induction h with
  | undef v => exact .undef v
  | non => exact .non
  | nil => exact .nil
  | d p v h => exact .d p v (h.mono (fun q hq => (K.ok q hq).1) (fun q hq => (K.ok q hq).2))
  | tv b n xs v h h1 =>
    refine .tv b n xs v (h.keep K fun hx hv => ?_) h1
    exact hx.mono (fun q ⟨l, hl⟩ => ⟨l, (hv q l hl).1⟩) (fun q ⟨l, hl⟩ => (hv q l hl).2)
  | sl b v h h1 =>
    refine .sl b v ?_ h1
    have hne : lk mem b ≠ .fut := by intro e; rw [e] at h; exact h
    cases h' : lk mem' b with
    | fut => exact K.nofut b hne h'
    | gone => trivial
    | sv cells => obtain ⟨⟨c0, hc0⟩, _⟩ := K.sv b cells hne h'; rw [hc0] at h; exact h
    | ar e m xs =>
      obtain ⟨n0, xs0, h0, hlen, _, hloc, hcap, _⟩ := K.ar b e m xs hne h'
      rw [h0] at h
      simp only [slOK, hdr] at h ⊢
      rw [h, hloc, hcap, hlen]
  | ref b off v h h1 =>
    refine .ref b off v ?_ h1
    have hne : lk mem b ≠ .fut := by intro e; rw [e] at h; exact h
    cases h' : lk mem' b with
    | fut => exact K.nofut b hne h'
    | gone => trivial
    | sv cells => obtain ⟨⟨c0, hc0⟩, hloc⟩ := K.sv b cells hne h'; rw [hc0] at h; simpa only [refOK, hloc] using h
    | ar e m xs =>
      obtain ⟨n0, xs0, h0, _⟩ := K.ar b e m xs hne h'
      rw [h0] at h; exact h
  | el b i off v h h1 =>
    refine .el b i off v ?_ h1
    have hne : lk mem b ≠ .fut := by intro e; rw [e] at h; exact h
    cases h' : lk mem' b with
    | fut => exact K.nofut b hne h'
    | gone => trivial
    | sv cells => obtain ⟨⟨c0, hc0⟩, _⟩ := K.sv b cells hne h'; rw [hc0] at h; exact h
    | ar e m xs =>
      obtain ⟨n0, xs0, h0, hlen, _, hloc, hcap, _⟩ := K.ar b e m xs hne h'
      rw [h0] at h
      simp only [elOK, hloc, hlen] at h ⊢
      exact h
  | velN cells off v h => exact .velN cells off v (h.mono (fun q hq => (K.ok q hq).1) (fun q hq => (K.ok q hq).2))
  | velS b n cells off v h h1 =>
    refine .velS b n cells off v (h.keep K fun hx hv => ?_) h1
    exact hx.mono (fun q ⟨l, hl⟩ => ⟨l, (hv q l hl).1⟩) (fun q ⟨l, hl⟩ => (hv q l hl).2)
  | agg cs vs hl h1 h ih => exact .agg cs vs hl h1 (fun i c v a b => ih i c v a b)
  | tup cs vs hl h ih => exact .tup cs vs hl (fun i c v a b => ih i c v a b)
  | fn f cs vs hl h ih => exact .fn f cs vs hl (fun i c v a b => ih i c v a b)

theorem Keep.refl (w : World) (g : Gh) (mem : List AB) : Keep w g mem w g mem where
  ok := fun q hq => ⟨hq, fun _ _ h => h⟩
  nofut := fun _ h => h
  sv := fun b cells _ h => ⟨⟨cells, h⟩, rfl⟩
  ar := fun b e n xs _ h => ⟨n, xs, h, rfl, Nat.le_refl _, rfl, rfl, fun _ q l hq => ⟨hq, fun _ _ h => h⟩⟩

end Go.Proofs.Ytfeiaibdnnhlaaa
