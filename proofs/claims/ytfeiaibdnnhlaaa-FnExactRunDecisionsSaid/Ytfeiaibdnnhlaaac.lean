import Derived.Test.Ytfeiaibdnnhlaaab
import Derived.Laws.StructEq
/- The abstract interpreter, part 3: the abstract operations. -/
set_option linter.unusedVariables false
set_option linter.unusedSimpArgs false
namespace Go.Proofs.Ytfeiaibdnnhlaaa

inductive UD where
  | bool | int (k : IntKind) | string | slice (e : TypeId) | struct (fs : List (Nat × TypeId)) | array | other

/-- The kinds of the cells of a value that can be compared. -/
inductive KK where
  | bool | int (k : IntKind) | str
  deriving DecidableEq

/-- What the interpreter knows of a type. -/
structure TI where
  size : Nat
  bytes : Nat
  zero : Option (List PV)
  ud : UD
  cmp : Option (List KK) := none

def flatFs (f : TypeId → Option (List KK)) : List Field → Nat → Option (List KK)
  | [], _ => some []
  | x :: l, off =>
    if x.name == "_" || x.offset != off then none else
    match f x.type with
    | none => none
    | some ks => match flatFs f l (off + ks.length) with
      | none => none
      | some r => some (ks ++ r)

/-- The kinds of a type's cells, if all of them can be compared plainly. -/
def flatK (P : Program) : Nat → TypeId → Option (List KK)
  | 0, _ => none
  | d + 1, t => match P.info? t with
    | none => none
    | some i => match P.underlying t with
      | some .bool => if i.size == 1 then some [.bool] else none
      | some (.int k) => if i.size == 1 then some [.int k] else none
      | some .string => if i.size == 1 then some [.str] else none
      | some (.struct F) => if P.stoodInHeld t then none else match flatFs (flatK P d) F.toList 0 with
        | none => none
        | some ks => if i.size == ks.length then some ks else none
      | _ => none

def zval : PV → Value
  | .int k n => .int k n
  | .bool b => .bool b
  | .str s => .string s
  | .ls _ => .slice none 0 0

/-- A zero value's cell: a slice is nil. -/
def zOk : PV → Bool
  | .ls xs => xs.isEmpty
  | _ => true

def zAV : PV → AV
  | .ls _ => .nil
  | p => .d p

def udOK (P : Program) (t : TypeId) : UD → Prop
  | .bool => P.underlying t = some .bool
  | .int k => P.underlying t = some (.int k)
  | .string => P.underlying t = some .string
  | .slice e => P.underlying t = some (.slice e)
  | .struct fs => ∃ F, P.underlying t = some (.struct F) ∧ F.toList.map (fun f => (f.offset, f.type)) = fs ∧ (∀ f ∈ F.toList, (P.info? f.type).isSome = true)
  | .array => ∃ d, P.underlying t = some d
  | .other => ∃ d, P.underlying t = some d ∧ (∀ F, d ≠ .struct F) ∧ ∀ n e, d ≠ .array n e

def TTok (P : Program) (tt : TypeId → Option TI) : Prop :=
  ∀ t i, tt t = some i → ∃ ti, P.info? t = some ti ∧ ti.size = i.size ∧ ti.bytes = i.bytes ∧
    (∀ z, i.zero = some z → z.length = i.size ∧ z.all zOk = true ∧ ∃ zv, ti.zero = some zv ∧ zv.cells.toList = z.map zval) ∧ udOK P t i.ud ∧
    (∀ ks, i.cmp = some ks → flatK P 8 t = some ks ∧ P.eqGuardType P.depth t = false)

/-- What an operation reads: temporaries and blocks that are known. -/
structure Rd where
  t : Nat → Option AV
  m : Nat → Option AB

structure AS where
  tmps : List AV
  mem : List AB

def defA : Option AV → Option AV
  | some .undef => none
  | x => x

def defB : AB → Option AB
  | .fut => none
  | .gone => none
  | x => some x

def AS.rd (σ : AS) : Rd := { t := fun i => defA σ.tmps[i]?, m := fun b => defB (lk σ.mem b) }

def bi {α β : Type} (o : Option α) (f : α → Option β) : Option β :=
  match o with
  | none => none
  | some a => f a

def omap {α β : Type} (f : α → Option β) : List α → Option (List β)
  | [] => some []
  | a :: l => match f a with
    | none => none
    | some b => match omap f l with
      | none => none
      | some r => some (b :: r)

def ofV1 : Value → Option AV
  | .int k n => some (.d (.int k n))
  | .bool b => some (.d (.bool b))
  | .string s => some (.d (.str s))
  | .slice none 0 0 => some .nil
  | _ => none

def ofV : Value → Option AV
  | .agg cs => match omap ofV1 cs.toList with
    | some l => some (.agg l)
    | none => none
  | v => ofV1 v

def aeval (ρ : Rd) : Operand → Option AV
  | .tmp t => ρ.t t
  | .const v => ofV v
  | .func f => some (.fn f [])
  | .global _ => none

def acells : AV → List AV
  | .agg cs => cs
  | a => [a]

def isCell : AV → Bool
  | .undef => false
  | .non => false
  | .agg _ => false
  | .tup _ => false
  | _ => true

def isAggA : AV → Bool
  | .agg _ => true
  | _ => false

/-- How many cells a load of the type takes, if it takes them as a whole. -/
def szOf (i : TI) : Option (Option Nat) :=
  match i.ud with
  | .struct _ => some (some i.size)
  | .array => none
  | _ => some none

def pickC (sz : Option Nat) (cells : List AV) (off : Nat) : Option AV :=
  match sz with
  | none => cells[off]?
  | some n => if off + n ≤ cells.length then some (.agg ((cells.drop off).take n)) else none

def pvw (b n : Nat) : PV → AV
  | .ls xs => .tv b n xs
  | p => .d p

/-- The stamp of a block of elements. -/
def stampIs (ρ : Rd) (b n : Nat) : Bool :=
  match ρ.m b with
  | some (.ar _ m _) => n == m
  | _ => false

def aload (ρ : Rd) (sz : Option Nat) : AV → Option AV
  | .ref b off => match ρ.m b with
    | some (.sv cells) => pickC sz cells off
    | _ => none
  | .el b i off => match ρ.m b with
    | some (.ar _ n xs) => match xs[i]? with
      | some x => pickC sz (x.map (pvw b n)) off
      | none => none
    | _ => none
  | .vel none cells off => pickC sz (cells.map .d) off
  | .vel (some (b, n)) cells off => if stampIs ρ b n then pickC sz (cells.map (pvw b n)) off else none
  | _ => none

def splice {α : Type} (l : List α) (off : Nat) : List α → List α
  | [] => l
  | c :: cs => splice (l.set off c) (off + 1) cs

/-- A cell that is to be stored into an element: its data, and the block that is given with it. -/
def toPV (ρ : Rd) : AV → Option (PV × Option Nat)
  | .d (.ls xs) => match xs with
    | [] => some (.ls [], none)
    | _ => none
  | .d p => some (p, none)
  | .nil => some (.ls [], none)
  | .sl c => match ρ.m c with
    | some (.ar _ _ xs) => some (.ls xs, some c)
    | _ => none
  | _ => none

def goneW : Option Nat → List (Nat × AB)
  | none => []
  | some c => [(c, .gone)]

/-- Stores of several cells into an element of block b. -/
def elSt (ρ : Rd) (b i e : Nat) : Nat → List (List PV) → List PV → Nat → List Nat → List AV → Option (List (Nat × AB))
  | _, _, _, _, _, [] => some []
  | n, xs, x, off, used, a :: as =>
    match toPV ρ a with
    | none => none
    | some (p, c) =>
      if (c.any fun c => c == b || used.contains c) then none else
      match elSt ρ b i e (n + 1) (xs.set i (x.set off p)) (x.set off p) (off + 1) (c.toList ++ used) as with
      | none => none
      | some ws => some (goneW c ++ (b, AB.ar e (n + 1) (xs.set i (x.set off p))) :: ws)

def astore (ρ : Rd) (size : Nat) (a x : AV) : Option (List (Nat × AB)) :=
  let cs := acells x
  if cs.length = size && (isCell x || isAggA x) then
    match a with
    | .ref b off => match ρ.m b with
      | some (.sv cells) => if off + size ≤ cells.length then some [(b, .sv (splice cells off cs))] else none
      | _ => none
    | .el b i off => match ρ.m b with
      | some (.ar e n xs) => match xs[i]? with
        | some x0 => if off + size ≤ x0.length then elSt ρ b i e n xs x0 off [] cs else none
        | none => none
      | _ => none
    | _ => none
  else none

/-- The elements of a slice. -/
def alist (ρ : Rd) : AV → Option (List (List PV))
  | .nil => some []
  | .d (.ls xs) => some xs
  | .tv b n xs => if stampIs ρ b n then some xs else none
  | .sl b => match ρ.m b with
    | some (.ar _ _ xs) => some xs
    | _ => none
  | _ => none

def aint : AV → Option (IntKind × Int)
  | .d (.int k n) => some (k, n)
  | _ => none

def abool : AV → Option Bool
  | .d (.bool b) => some b
  | _ => none

def alen (ρ : Rd) : AV → Option Nat
  | .d (.str s) => some s.size
  | a => match alist ρ a with
    | some xs => some xs.length
    | none => none

def aindexAddr (ρ : Rd) (size : Nat) (a : AV) (i : Int) : Option AV :=
  match a with
  | .sl b => match ρ.m b with
    | some (.ar e _ xs) => if e = size then if 0 ≤ i ∧ i < xs.length then some (.el b i.toNat 0) else none else none
    | _ => none
  | .d (.ls xs) => if 0 ≤ i then match xs[i.toNat]? with
    | some x => if x.length = size then some (.vel none x 0) else none
    | none => none else none
  | .tv b n xs => if stampIs ρ b n then if 0 ≤ i then match xs[i.toNat]? with
    | some x => if x.length = size then some (.vel (some (b, n)) x 0) else none
    | none => none else none else none
  | _ => none

def widthOk (e : Nat) (xs : List (List PV)) : Bool := xs.all fun x => x.length == e

def aslice (ρ : Rd) (size : Nat) (a : AV) (lo hi : Option Int) : Option AV :=
  let go (n : Nat) (mk : Nat → Nat → AV) : Option AV :=
    if 0 ≤ lo.getD 0 ∧ lo.getD 0 ≤ hi.getD n ∧ hi.getD n ≤ n then some (mk (lo.getD 0).toNat (hi.getD n).toNat) else none
  match a with
  | .d (.str s) => go s.size fun l h => .d (.str (s.extract l h))
  | .d (.ls xs) => if widthOk size xs then go xs.length fun l h => .d (.ls ((xs.drop l).take (h - l))) else none
  | .tv b n xs => if stampIs ρ b n && widthOk size xs then go xs.length fun l h => .tv b n ((xs.drop l).take (h - l)) else none
  | .nil => go 0 fun _ _ => .d (.ls [])
  | .sl b => match ρ.m b with
    | some (.ar e n xs) => if e = size then go xs.length fun l h => .tv b n ((xs.drop l).take (h - l)) else none
    | _ => none
  | _ => none

/-- A pointer whose block is known. -/
def alive (ρ : Rd) : AV → Bool
  | .ref b _ => match ρ.m b with
    | some (.sv _) => true
    | _ => false
  | .el b _ _ => match ρ.m b with
    | some (.ar _ _ _) => true
    | _ => false
  | .vel none _ _ => true
  | .vel (some (b, n)) _ _ => stampIs ρ b n
  | _ => false

def shiftP (off : Nat) : AV → AV
  | .ref b o => .ref b (o + off)
  | .el b i o => .el b i (o + off)
  | .vel s cells o => .vel s cells (o + off)
  | a => a

def afieldOff (ρ : Rd) (off : Nat) (a : AV) : Option AV := if alive ρ a then some (shiftP off a) else none

def bytesEq (a b : ByteArray) : Bool := a.toList == b.toList

def aintOp (op : BinOp) (k : IntKind) (a b : Int) : Option PV :=
  match op with
  | .add => some (.int k (k.wrap (a + b)))
  | .sub => some (.int k (k.wrap (a - b)))
  | .mul => some (.int k (k.wrap (a * b)))
  | .quo => if b = 0 then none else some (.int k (k.wrap (a.tdiv b)))
  | .rem => if b = 0 then none else some (.int k (a.tmod b))
  | .eql => some (.bool (a == b))
  | .neq => some (.bool (a != b))
  | .lss => some (.bool (a < b))
  | .leq => some (.bool (a ≤ b))
  | .gtr => some (.bool (a > b))
  | .geq => some (.bool (a ≥ b))
  | .shr => if b < 0 then none else some (.int k (a.fdiv (2 ^ (min b.toNat k.bits))))
  | .shl => if b < 0 then none else some (.int k (k.wrap (a * 2 ^ (min b.toNat k.bits))))
  | .xor => some (.int k (k.wrap ((BitVec.ofInt k.bits a ^^^ BitVec.ofInt k.bits b).toNat)))
  | .and => some (.int k (k.wrap ((BitVec.ofInt k.bits a &&& BitVec.ofInt k.bits b).toNat)))
  | .or => some (.int k (k.wrap ((BitVec.ofInt k.bits a ||| BitVec.ofInt k.bits b).toNat)))
  | _ => none

def isShift : BinOp → Bool
  | .shl => true
  | .shr => true
  | _ => false

def astrOp (op : BinOp) (x y : ByteArray) : Option PV :=
  match op with
  | .add => if ((x.size + y.size : Nat) : Int) > IntKind.i64.max then none else some (.str (x ++ y))
  | .eql => some (.bool (decide (x = y)))
  | .neq => some (.bool !(decide (x = y)))
  | .lss => some (.bool (Op.bytesLess x.toList y.toList))
  | .leq => some (.bool (Op.bytesLess x.toList y.toList || decide (x = y)))
  | .gtr => some (.bool !(Op.bytesLess x.toList y.toList || decide (x = y)))
  | .geq => some (.bool !(Op.bytesLess x.toList y.toList))
  | _ => none

def eqK : KK → AV → AV → Option Bool
  | .int k, .d (.int k1 a), .d (.int k2 b) => if k1 = k ∧ k2 = k then some (a == b) else none
  | .bool, .d (.bool a), .d (.bool b) => some (a == b)
  | .str, .d (.str a), .d (.str b) => some (decide (a = b))
  | _, _, _ => none

/-- Equality of the cells of two values. -/
def aeqC : List KK → List AV → List AV → Option Bool
  | [], [], [] => some true
  | k :: ks, x :: xs, y :: ys => bi (eqK k x y) fun b => bi (aeqC ks xs ys) fun r => some (b && r)
  | _, _, _ => none

def abinOp (tt : TypeId → Option TI) (op : BinOp) (t : TypeId) (x y : AV) : Option PV :=
  match x, y with
  | .d (.int k a), .d (.int k' b) => if isShift op || k == k' then aintOp op k a b else none
  | .d (.str a), .d (.str b) => astrOp op a b
  | .d (.bool a), .d (.bool b) => match tt t with
    | some i => match i.ud with
      | .bool => match op with
        | .eql => some (.bool (a == b))
        | .neq => some (.bool !(a == b))
        | _ => none
      | _ => none
    | none => none
  | .agg xs, .agg ys => match tt t with
    | some i => match i.ud with
      | .struct _ => match i.cmp with
        | some ks => match aeqC ks xs ys with
          | some r => match op with
            | .eql => some (.bool r)
            | .neq => some (.bool !r)
            | _ => none
          | none => none
        | none => none
      | _ => none
    | none => none
  | _, _ => none

def aunOp (op : UnOp) (x : AV) : Option PV :=
  match op, x with
  | .not, .d (.bool b) => some (.bool !b)
  | .neg, .d (.int k n) => some (.int k (k.wrap (0 - n)))
  | _, _ => none

/-- The bytes of a list of one-cell elements that are bytes. -/
def bytesOf : List (List PV) → Option (List UInt8)
  | [] => some []
  | [.int .u8 n] :: l => match bytesOf l with
    | some r => some (UInt8.ofNat n.toNat :: r)
    | none => none
  | _ => none

def aconvert (tt : TypeId → Option TI) (ρ : Rd) (src dst : TypeId) (x : AV) : Option PV :=
  match tt src, tt dst with
  | some i, some j => match j.ud, x with
    | .int k, .d (.int _ n) => some (.int k (k.wrap n))
    | .string, .d (.int _ n) => match i.ud with
      | .int _ => some (.str (Utf8.encode n))
      | _ => none
    | .string, .d (.str s) => match i.ud with
      | .string => some (.str s)
      | _ => none
    | .string, a => match i.ud with
      | .slice e => match tt e with
        | some k => match k.ud with
          | .int .u8 => match alist ρ a with
            | some xs => match bytesOf xs with
              | some l => some (.str ⟨l.toArray⟩)
              | none => none
            | none => none
          | _ => none
        | none => none
      | _ => none
    | _, _ => none
  | _, _ => none

def afield (i : TI) (j : TI) (off : Nat) : AV → Option AV
  | .agg cs => match szOf j with
    | some sz => pickC sz cs off
    | none => none
  | _ => none

/-- Cells of a new element. -/
def toPVs (ρ : Rd) (used : List Nat) : List AV → Option (List PV × List Nat)
  | [] => some ([], used)
  | a :: as => match toPV ρ a with
    | none => none
    | some (p, c) => if (c.any fun c => used.contains c) then none else match toPVs ρ (c.toList ++ used) as with
      | none => none
      | some (ps, u) => some (p :: ps, u)

/-- The cells of the elements of a literal, one behind the other. -/
def flatCells (size : Nat) : List AV → Option (List AV)
  | [] => some []
  | a :: as => if (acells a).length = size && (isCell a || isAggA a) then match flatCells size as with
      | none => none
      | some r => some (acells a ++ r)
    else none

def chunk {α : Type} : Nat → Nat → List α → List (List α)
  | 0, _, _ => []
  | n + 1, size, l => l.take size :: chunk n size (l.drop size)

def partsOk : Nat → List (Nat × Operand) → Bool
  | _, [] => true
  | i, (j, _) :: l => i == j && partsOk (i + 1) l

def goneAll (u : List Nat) : List (Nat × AB) := u.map fun c => (c, .gone)

def flatL (xs : List (List PV)) : Bool := xs.all fun x => x.all flatP

/-- append: the base is nil or a block of our own. -/
def aappend (ρ : Rd) (nx : Nat) (i : TI) (s x : AV) : Option (AV × List (Nat × AB)) :=
  match s with
  | .nil => match alist ρ x with
    | some ys => if widthOk i.size ys && decide (0 < i.size) && decide (0 < i.bytes) && decide (ys.length * i.bytes ≤ 140737488355328) then
        if flatL ys then some (.sl nx, [(nx, .ar i.size 0 ys)])
        else match x with
          | .sl c => some (.sl nx, [(c, .gone), (nx, .ar i.size 0 ys)])
          | _ => none
      else none
    | none => none
  | .sl b => match ρ.m b with
    | some (.ar e _ xs) => match alist ρ x with
      | some ys => if e == i.size && widthOk i.size ys && decide (0 < i.size) && decide (0 < i.bytes) && decide ((xs.length + ys.length) * i.bytes ≤ 140737488355328) then
          if flatL ys then some (.sl nx, [(b, .gone), (nx, .ar i.size 0 (xs ++ ys))])
          else match x with
            | .sl c => if c == b then none else some (.sl nx, [(c, .gone), (b, .gone), (nx, .ar i.size 0 (xs ++ ys))])
            | _ => none
        else none
      | none => none
    | _ => none
  | _ => none

def abuild (tt : TypeId → Option TI) (cs : List AV) (fs : List (Nat × TypeId)) : List (Nat × AV) → Option (List AV)
  | [] => some cs
  | (i, a) :: l => match fs[i]? with
    | none => none
    | some (off, t) => match tt t with
      | none => none
      | some j => if (acells a).length = j.size && off + j.size ≤ cs.length && (isCell a || isAggA a) then abuild tt (splice cs off (acells a)) fs l else none

def aparts (ρ : Rd) : List (Nat × Operand) → Option (List (Nat × AV))
  | [] => some []
  | (i, x) :: l => match aeval ρ x with
    | none => none
    | some a => match aparts ρ l with
      | none => none
      | some r => some ((i, a) :: r)

def minmax (isMax : Bool) : AV → AV → Option AV
  | .d (.int k a), .d (.int k' b) => if k = k' then some (.d (.int k (if isMax then (if b > a then b else a) else (if b < a then b else a)))) else none
  | .d (.str a), .d (.str b) => some (.d (.str (if isMax then (if !(Op.bytesLess a.toList b.toList) then a else b) else (if Op.bytesLess a.toList b.toList || decide (a = b) then a else b))))
  | _, _ => none

/-- One operation, but for calls of functions: its value, and what it makes of blocks. -/
def astep (tt : TypeId → Option TI) (ρ : Rd) (nx : Nat) : Op → Option (AV × List (Nat × AB))
  | .move x => bi (aeval ρ x) fun a => some (a, [])
  | .assign x => bi (aeval ρ x) fun a => some (a, [])
  | .pick c a b => bi (aeval ρ c) fun c => bi (abool c) fun t => bi (if t then aeval ρ a else aeval ρ b) fun r => some (r, [])
  | .alloc t => bi (tt t) fun i => bi i.zero fun z => some (.ref nx 0, [(nx, .sv (z.map zAV))])
  | .box _ x => bi (aeval ρ x) fun a => if isCell a || isAggA a then some (.ref nx 0, [(nx, .sv (acells a))]) else none
  | .load t x => bi (tt t) fun i => bi (szOf i) fun sz => bi (aeval ρ x) fun a => bi (aload ρ sz a) fun r => some (r, [])
  | .store t x y => bi (tt t) fun i => bi (aeval ρ x) fun a => bi (aeval ρ y) fun v => bi (astore ρ i.size a v) fun ws => some (.undef, ws)
  | .nilCheck x => bi (aeval ρ x) fun a => if alive ρ a then some (a, []) else none
  | .binOp op t x y _ => bi (aeval ρ x) fun a => bi (aeval ρ y) fun b => bi (abinOp tt op t a b) fun p => some (.d p, [])
  | .unOp op _ x => bi (aeval ρ x) fun a => bi (aunOp op a) fun p => some (.d p, [])
  | .convert s t x => bi (aeval ρ x) fun a => bi (aconvert tt ρ s t a) fun p => some (.d p, [])
  | .extract x i => bi (aeval ρ x) fun a => match a with
    | .tup vs => bi vs[i]? fun r => some (r, [])
    | _ => none
  | .field s x f => bi (tt s) fun i => match i.ud with
    | .struct fs => bi fs[f]? fun p => bi (tt p.2) fun j => bi (aeval ρ x) fun a => bi (afield i j p.1 a) fun r => some (r, [])
    | _ => none
  | .fieldAddr s x f => bi (tt s) fun i => match i.ud with
    | .struct fs => bi fs[f]? fun p => bi (tt p.2) fun j => if j.size = 0 then none else bi (aeval ρ x) fun a => bi (afieldOff ρ p.1 a) fun r => some (r, [])
    | _ => none
  | .indexAddr t x ix => bi (tt t) fun i => match i.ud with
    | .slice e => bi (tt e) fun j => bi (aeval ρ x) fun a => bi (aeval ρ ix) fun n => bi (aint n) fun n => bi (aindexAddr ρ j.size a n.2) fun r => some (r, [])
    | _ => none
  | .index t x ix => bi (tt t) fun i => match i.ud with
    | .string => bi (aeval ρ x) fun a => bi (aeval ρ ix) fun n => bi (aint n) fun n => match a with
      | .d (.str s) => if 0 ≤ n.2 then bi s[n.2.toNat]? fun c => some (.d (.int .u8 c.toNat), []) else none
      | _ => none
    | _ => none
  | .slice t x lo hi none => bi (tt t) fun i => bi (aeval ρ x) fun a =>
    bi (match lo with | none => some none | some l => bi (aeval ρ l) fun l => bi (aint l) fun l => some (some l.2)) fun l =>
    bi (match hi with | none => some none | some l => bi (aeval ρ l) fun l => bi (aint l) fun l => some (some l.2)) fun h =>
    match i.ud, a with
    | .string, .d (.str _) => bi (aslice ρ 0 a l h) fun r => some (r, [])
    | .slice e, .d (.str _) => none
    | .slice e, _ => bi (tt e) fun j => bi (aslice ρ j.size a l h) fun r => some (r, [])
    | _, _ => none
  | .makeSlice t l c => bi (tt t) fun i => match i.ud with
    | .slice e => bi (tt e) fun j => bi j.zero fun z => bi (aeval ρ l) fun l => bi (aint l) fun l => bi (aeval ρ c) fun c => bi (aint c) fun c =>
      if 0 ≤ l.2 ∧ l.2 ≤ c.2 ∧ c.2 * j.bytes ≤ 140737488355328 ∧ c.2 ≤ 140737488355328 ∧ j.size = z.length ∧ 0 < j.size then
        some (.sl nx, [(nx, .ar j.size 0 (List.replicate l.2.toNat z))]) else none
    | _ => none
  | .build t parts => bi (tt t) fun i => match i.ud with
    | .struct fs => bi i.zero fun z => bi (aparts ρ parts.toList) fun ps => bi (abuild tt (z.map zAV) fs ps) fun cs => some (.agg cs, [])
    | _ => none
  | .buildSlice t len parts => bi (tt t) fun i => match i.ud with
    | .slice e => bi (tt e) fun j => if partsOk 0 parts.toList && parts.size == len && decide (0 < j.size) && decide (len * j.size ≤ 16777216) && j.zero.isSome then
        bi (aparts ρ parts.toList) fun ps => bi (flatCells j.size (ps.map (·.2))) fun fl => bi (toPVs ρ [] fl) fun r => some (.sl nx, goneAll r.2 ++ [(nx, .ar j.size 0 (chunk len j.size r.1))]) else none
    | _ => none
  | .makeFunc (.func f) first captured => if first.size = 0 then bi (aparts ρ (captured.toList.map fun x => (0, x))) fun ps => some (.fn f (ps.map (·.2)), []) else none
  | .call { callee := .builtin .len, args, argTypes } => match args.toList, argTypes.toList with
    | [x], [t] => bi (tt t) fun i => bi (aeval ρ x) fun a => match i.ud, a with
      | .string, .d (.str s) => some (.d (.int .i64 s.size), [])
      | .slice _, .d (.str _) => none
      | .slice _, _ => bi (alist ρ a) fun xs => some (.d (.int .i64 xs.length), [])
      | _, _ => none
    | _, _ => none
  | .call { callee := .builtin .append, args, argTypes } => match args.toList, argTypes.toList with
    | [s, x], [t, u] => if t = u then bi (tt t) fun i => match i.ud with
      | .slice e => bi (tt e) fun j => bi j.zero fun _ => bi (aeval ρ s) fun s => bi (aeval ρ x) fun x => aappend ρ nx j s x
      | _ => none
      else none
    | _, _ => none
  | .call { callee := .builtin .min, args, argTypes := _ } => match args.toList with
    | [x, y] => bi (aeval ρ x) fun a => bi (aeval ρ y) fun b => bi (minmax false a b) fun r => some (r, [])
    | _ => none
  | .call { callee := .builtin .max, args, argTypes := _ } => match args.toList with
    | [x, y] => bi (aeval ρ x) fun a => bi (aeval ρ y) fun b => bi (minmax true a b) fun r => some (r, [])
    | _ => none
  | _ => none

end Go.Proofs.Ytfeiaibdnnhlaaa
