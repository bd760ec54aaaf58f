import Derived.Test.Ytfeiaibdnnhlaaat2
/- Rules of the walk: regions whose order is drawn. -/
set_option linter.unusedSectionVars false
set_option linter.unusedVariables false
set_option linter.unusedSimpArgs false
namespace Go.Proofs.Ytfeiaibdnnhlaaa

/-- What is said of an operation of a drawn region: its place, what is surely done before it (bits), temporaries and blocks that it may not look at, where its new blocks begin. -/
structure DI where
  i : Nat
  pm : Nat
  tm : List Nat
  bm : List Nat
  off : Nat

def tsel (pm : Nat) : List (Nat × Eff) → List (Nat × AV) → List (Nat × AV)
  | [], l => l
  | (j, e) :: r, l => match Nat.testBit pm j with
    | true => match e.dst with
      | some d => (d, e.av) :: tsel pm r l
      | none => tsel pm r l
    | false => tsel pm r l

def msel (pm : Nat) : List (Nat × Eff) → List AB → List AB
  | [], m => m
  | (j, e) :: r, m => match Nat.testBit pm j with
    | true => appW e.ws (msel pm r m)
    | false => msel pm r m

def tall : List (Nat × Eff) → List (Nat × AV) → List (Nat × AV)
  | [], l => l
  | (_, e) :: r, l => match e.dst with
    | some d => (d, e.av) :: tall r l
    | none => tall r l

def mall : List (Nat × Eff) → List AB → List AB
  | [], m => m
  | (_, e) :: r, m => appW e.ws (mall r m)

def rdD (n : Nat) (l : List (Nat × AV)) (m : List AB) (di : DI) (E : List (Nat × Eff)) : Rd :=
  { t := fun i => match di.tm.contains i with
      | true => none
      | false => defA (aget n (tsel di.pm E l) i)
    m := fun b => match di.bm.contains b with
      | true => none
      | false => defB (lk (msel di.pm E m) b) }

def dW (P : Program) (tt : TypeId → Option TI) (ops : Array Oper) (n : Nat) (l : List (Nat × AV)) (m : List AB) : List DI → List Oper → List (Nat × Eff) → (List (Nat × Eff) → Prop) → Prop
  | _, [], E, k => k E
  | [], _ :: _, _, _ => False
  | di :: D, o :: r, E, k => ∃ e, OpD P tt ops (rdD n l m di E) (m.length + di.off) o e ∧ dW P tt ops n l m D r ((di.i, e) :: E) k

def wfE : List (Nat × Eff) → Prop
  | [] => True
  | (j, _) :: r => j = r.length ∧ wfE r

def effs (E : List (Nat × Eff)) : List Eff := (E.map (·.2)).reverse

theorem fo_snoc (H : Nat → Bool) (e : Eff) : ∀ (E : List Eff) (s : Nat) (σ : AS), fo H s (E ++ [e]) σ = cond (H (s + E.length)) (e.on (fo H s E σ)) (fo H s E σ)
  | [], s, σ => by simp [fo]
  | x :: r, s, σ => by
    simp only [List.cons_append, fo, fo_snoc H e r, List.length_cons]
    rw [show s + 1 + r.length = s + (r.length + 1) by omega]

theorem effs_cons (j : Nat) (e : Eff) (E : List (Nat × Eff)) : effs ((j, e) :: E) = effs E ++ [e] := by simp [effs]
theorem effs_len (E : List (Nat × Eff)) : (effs E).length = E.length := by simp [effs]

theorem on_S (e : Eff) (n : Nat) (l : List (Nat × AV)) (m : List AB) : e.on (S n l m) = S n (match e.dst with | some d => (d, e.av) :: l | none => l) (appW e.ws m) := by
  unfold Eff.on AS.app S
  cases e.dst <;> rfl

theorem fo_sel (pm n : Nat) (l : List (Nat × AV)) (m : List AB) : ∀ (E : List (Nat × Eff)), wfE E → fo (fun j => Nat.testBit pm j) 0 (effs E) (S n l m) = S n (tsel pm E l) (msel pm E m)
  | [], _ => rfl
  | (j, e) :: r, h => by
    obtain ⟨h1, h2⟩ := h
    rw [effs_cons, fo_snoc, fo_sel pm n l m r h2, Nat.zero_add, effs_len, ← h1]
    simp only [tsel, msel]
    cases Nat.testBit pm j with
    | false => rfl
    | true =>
      simp only [cond_true, on_S]

theorem fo_all (n : Nat) (l : List (Nat × AV)) (m : List AB) : ∀ (E : List (Nat × Eff)), fo (fun _ => true) 0 (effs E) (S n l m) = S n (tall E l) (mall E m)
  | [] => rfl
  | (j, e) :: r => by
    rw [effs_cons, fo_snoc, fo_all n l m r]
    simp only [cond_true, on_S, tall, mall]

/-- The bits of what is before each operation are right: each comes with an edge. -/
def preOK (D : List DI) : Nat → List Oper → Bool
  | _, [] => true
  | i, o :: r => ((List.range (i + 1)).all fun j => !(Nat.testBit ((D[i]?).map (·.pm) |>.getD 0) j) ||
      o.after.toList.any fun e => Region.binds .any e && (j == e.on || Nat.testBit ((D[e.on]?).map (·.pm) |>.getD 0) j)) &&
    Nat.blt ((D[i]?).map (·.pm) |>.getD 0) (2 ^ i) &&
    (o.after.toList.all fun e => !Region.binds .any e || Nat.blt e.on i) && preOK D (i + 1) r

/-- What an operation writes. -/
def shape (E : List (Nat × Eff)) : List (Option Tmp × List Nat) := (effs E).map fun e => (e.dst, e.ws.map (·.1))

def indS (a b : Option Tmp × List Nat) : Bool :=
  (match a.1, b.1 with
    | some a, some b => a != b
    | _, _ => true) && a.2.all fun x => b.2.all fun y => x != y

def isSomeB : Option AB → Bool
  | some _ => true
  | none => false

/-- The checks of one operation against one other. -/
def chk2 (M : Nat) (di : DI) (pi pj : Nat) (i j : Nat) (a b : Option Tmp × List Nat) (mem : List AB) : Bool :=
  j == i || (
    (Nat.testBit pj i || b.2.all fun x => Nat.blt x (M + di.off) || Nat.ble (M + di.off + (max 1 ((a.2.foldl max 0) + 1 - (M + di.off)))) x) &&
    (Nat.testBit pi j || Nat.testBit pj i || (
      (match b.1 with | some t => di.tm.contains t | none => true) &&
      b.2.all fun x => di.bm.contains x || !isSomeB (defB (lk mem x)))) &&
    (Nat.testBit pj i || Nat.ble j i || indS a b))

theorem foldl_max_le : ∀ (l : List Nat) (z x : Nat), x ∈ l ∨ x ≤ z → x ≤ l.foldl max z
  | [], z, x, h => by rcases h with h | h; · cases h
                      · exact h
  | y :: l, z, x, h => by
    simp only [List.foldl]
    refine foldl_max_le l _ x ?_
    rcases h with h | h
    · rcases List.mem_cons.1 h with rfl | h
      · exact .inr (Nat.le_max_right _ _)
      · exact .inl h
    · exact .inr (Nat.le_trans h (Nat.le_max_left _ _))

/-- All checks. Blocks below M are all the known ones. -/
def chkD (D : List DI) (m : List AB) (E : List (Nat × Eff)) : Bool :=
  D.length == E.length &&
  (List.range E.length).all fun i => match D[i]?, (shape E)[i]? with
    | some di, some a => di.i == i && (List.range E.length).all fun j => match D[j]?, (shape E)[j]? with
      | some dj, some b => chk2 m.length di di.pm dj.pm i j a b (msel di.pm (E.drop (E.length - i)) m)
      | _, _ => false
    | _, _ => false

section
variable {P : Program} {tt : TypeId → Option TI} {ops : Array Oper} {n : Nat} {l : List (Nat × AV)} {m : List AB}

theorem dW_get {k : List (Nat × Eff) → Prop} : ∀ (todo : List Oper) (D : List DI) (E : List (Nat × Eff)), dW P tt ops n l m D todo E k →
    ∃ F : List (Nat × Eff), k F ∧ F.length = E.length + todo.length ∧ F.drop todo.length = E ∧
      ∀ q o, todo[q]? = some o → ∃ di e, D[q]? = some di ∧ F[todo.length - 1 - q]? = some (di.i, e) ∧ OpD P tt ops (rdD n l m di (F.drop (todo.length - q))) (m.length + di.off) o e
  | [], D, E, h => by
    have h : k E := by cases D <;> exact h
    exact ⟨E, h, rfl, rfl, fun q o hq => by simp at hq⟩
  | o :: r, [], E, h => h.elim
  | o :: r, di :: D, E, h => by
    obtain ⟨e, hop, h⟩ := h
    obtain ⟨F, h1, h2, h3, h4⟩ := dW_get r D _ h
    have hd : F.drop (r.length + 1) = E := by
      rw [← List.drop_drop, h3]; rfl
    refine ⟨F, h1, by simp only [List.length_cons] at h2 ⊢; omega, hd, fun q o' hq => ?_⟩
    cases q with
    | zero =>
      simp only [List.getElem?_cons_zero, Option.some.injEq] at hq
      subst hq
      refine ⟨di, e, rfl, ?_, ?_⟩
      · have : F[r.length]? = (F.drop r.length)[0]? := by rw [List.getElem?_drop, Nat.add_zero]
        simp only [List.length_cons, Nat.add_sub_cancel, Nat.sub_zero]
        rw [this, h3]; rfl
      · simp only [List.length_cons, Nat.sub_zero]
        rw [hd]; exact hop
    | succ q =>
      obtain ⟨di', e', a1, a2, a3⟩ := h4 q o' (by simpa using hq)
      refine ⟨di', e', by simpa using a1, ?_, ?_⟩
      · rw [show (o :: r).length - 1 - (q + 1) = r.length - 1 - q by simp only [List.length_cons]; omega]; exact a2
      · rw [show (o :: r).length - (q + 1) = r.length - q by simp only [List.length_cons]; omega]; exact a3

theorem wfE_of : ∀ (F : List (Nat × Eff)), (∀ i, i < F.length → ∃ e, F[F.length - 1 - i]? = some (i, e)) → wfE F
  | [], _ => trivial
  | (j, e) :: r, h => by
    refine ⟨?_, wfE_of r fun i hi => ?_⟩
    · obtain ⟨e', he⟩ := h r.length (by simp)
      simp at he
      exact he.1
    · obtain ⟨e', he⟩ := h i (by simp only [List.length_cons]; omega)
      refine ⟨e', ?_⟩
      rw [show ((j, e) :: r).length - 1 - i = (r.length - 1 - i) + 1 by simp only [List.length_cons]; omega] at he
      simpa using he

theorem tsel_drop {pm i : Nat} (hp : ∀ j, i ≤ j → Nat.testBit pm j = false) : ∀ (F : List (Nat × Eff)), wfE F → tsel pm F l = tsel pm (F.drop (F.length - i)) l ∧ msel pm F m = msel pm (F.drop (F.length - i)) m
  | [], _ => by simp
  | (j, e) :: r, h => by
    obtain ⟨h1, h2⟩ := h
    by_cases hi : i ≤ r.length
    · have := tsel_drop hp r h2
      rw [show ((j, e) :: r).length - i = (r.length - i) + 1 by simp only [List.length_cons]; omega, List.drop_succ_cons]
      simp only [tsel, msel]
      rw [hp j (by omega)]
      exact this
    · rw [show ((j, e) :: r).length - i = 0 by simp only [List.length_cons]; omega]
      exact ⟨rfl, rfl⟩

theorem effs_get {F : List (Nat × Eff)} {i : Nat} {x : Nat × Eff} (hi : i < F.length) (h : F[F.length - 1 - i]? = some x) : (effs F)[i]? = some x.2 := by
  unfold effs
  rw [List.getElem?_reverse (by simpa using hi)]
  simp only [List.length_map, List.getElem?_map, h, Option.map_some]

def pmOf (D : List DI) (i : Nat) : Nat := (D[i]?).map (·.pm) |>.getD 0

theorem preOK_get {D : List DI} : ∀ (r : List Oper) (i : Nat), preOK D i r = true → ∀ q o, r[q]? = some o →
    (∀ j, j ≤ i + q → Nat.testBit (pmOf D (i + q)) j = true → ∃ e ∈ o.after, Region.binds .any e = true ∧ (j = e.on ∨ Nat.testBit (pmOf D e.on) j = true)) ∧
    pmOf D (i + q) < 2 ^ (i + q) ∧ ∀ e ∈ o.after, Region.binds .any e = true → e.on < i + q
  | [], _, _, q, o, hq => by simp at hq
  | x :: r, i, h, q, o, hq => by
    simp only [preOK, Bool.and_eq_true, List.all_eq_true, List.mem_range, Bool.or_eq_true, Bool.not_eq_true', List.any_eq_true, beq_iff_eq] at h
    obtain ⟨⟨⟨h1, h2⟩, h3⟩, h4⟩ := h
    cases q with
    | zero =>
      simp only [List.getElem?_cons_zero, Option.some.injEq] at hq
      subst hq
      refine ⟨fun j hj hb => ?_, by rw [← Nat.blt_eq]; exact h2, fun e he hb => ?_⟩
      · rcases h1 j (by omega) with h | ⟨e, he, hb', h⟩
        · rw [show pmOf D (i + 0) = _ from rfl] at hb
          unfold pmOf at hb
          rw [Nat.add_zero, h] at hb
          cases hb
        · exact ⟨e, by simpa using he, hb', h⟩
      · rcases h3 e (by simpa using he) with h | h
        · rw [h] at hb; cases hb
        · rw [Nat.blt_eq] at h; exact h
    | succ q =>
      have := preOK_get r (i + 1) h4 q o (by simpa using hq)
      rw [show i + 1 + q = i + (q + 1) by omega] at this
      exact this

theorem isSomeB_some {b : Nat} {m : List AB} {x : AB} (h : defB (lk m b) = some x) : isSomeB (defB (lk m b)) = true := by rw [h]; rfl

theorem w_draw {n0 id : Nat} {Q : Ex → AS → Prop} (D : List DI) (hp : preOK D 0 ops.toList = true) (h : dW P tt ops n l m D ops.toList [] fun E => chkD D m E = true ∧ Q .normal (S n (tall E l) (mall E m))) :
    awp P tt n0 (.region id ops true) (S n l m) Q := by
  obtain ⟨F, ⟨hc, hQ⟩, hF, _, hops⟩ := dW_get _ _ _ h
  simp only [List.length_nil, Nat.zero_add, Array.length_toList] at hF
  simp only [awp, if_true]
  have hN : F.length = ops.size := hF
  unfold chkD at hc
  simp only [Bool.and_eq_true, beq_iff_eq, List.all_eq_true, List.mem_range] at hc
  obtain ⟨hDl, hc⟩ := hc
  have hget : ∀ i o, ops[i]? = some o → ∃ di e, D[i]? = some di ∧ di.i = i ∧ F[F.length - 1 - i]? = some (i, e) ∧ (effs F)[i]? = some e ∧ OpD P tt ops (rdD n l m di (F.drop (F.length - i))) (m.length + di.off) o e ∧
      ∀ j e', (effs F)[j]? = some e' → ∃ dj, D[j]? = some dj ∧ chk2 m.length di di.pm dj.pm i j (e.dst, e.ws.map (·.1)) (e'.dst, e'.ws.map (·.1)) (msel di.pm (F.drop (F.length - i)) m) = true := by
    intro i o ho
    have hi : i < ops.size := by
      refine Nat.lt_of_not_le fun h' => ?_
      rw [Array.getElem?_eq_none h'] at ho; cases ho
    obtain ⟨di, e, a1, a2, a3⟩ := hops i o (by simpa using ho)
    simp only [Array.length_toList] at a2 a3
    rw [← hN] at a2 a3
    have he := effs_get (by omega) a2
    have hci := hc i (by omega)
    have hsh : ∀ (j : Nat) (e' : Eff), (effs F)[j]? = some e' → (shape F)[j]? = some (e'.dst, e'.ws.map (·.1)) := fun j e' hj => by
      simp only [shape, List.getElem?_map, hj, Option.map_some]
    rw [a1, hsh i _ he] at hci
    simp only [Bool.and_eq_true, beq_iff_eq, List.all_eq_true, List.mem_range] at hci
    obtain ⟨hii, hci⟩ := hci
    refine ⟨di, e, a1, hii, by rw [a2, hii], he, a3, fun j e' hj => ?_⟩
    have hjl : j < F.length := by
      rw [← effs_len]
      refine Nat.lt_of_not_le fun h' => ?_
      rw [List.getElem?_eq_none h'] at hj; cases hj
    have hcj := hci j hjl
    rw [hsh j _ hj] at hcj
    have hDj : D[j]? = some D[j] := List.getElem?_eq_getElem (by omega)
    rw [hDj] at hcj
    exact ⟨_, hDj, hcj⟩
  have hwf : wfE F := wfE_of F fun i hi => by
    obtain ⟨di, e, _, _, h, _⟩ := hget i _ (Array.getElem?_eq_getElem (by omega))
    exact ⟨e, h⟩
  have hpm : ∀ i di, D[i]? = some di → pmOf D i = di.pm := fun i di h => by simp [pmOf, h]
  have hpo := preOK_get _ 0 hp
  have hout : ∀ i o, ops[i]? = some o → ∀ j, i ≤ j → Nat.testBit (pmOf D i) j = false := fun i o ho j hj => by
    obtain ⟨_, h2, _⟩ := hpo i o (by simpa using ho)
    rw [Nat.zero_add] at h2
    exact Nat.testBit_lt_two_pow (Nat.lt_of_lt_of_le h2 (Nat.pow_le_pow_right (by omega) hj))
  refine ⟨effs F, fun i j => Nat.testBit (pmOf D i) j, ⟨by rw [effs_len, hN], fun i o ho j hj => ?_, fun i o ho e he hb => ?_, fun i j e e' hij he he' hpj => ?_, fun i o e ho he => ?_⟩, ?_⟩
  · obtain ⟨h1, _, _⟩ := hpo i o (by simpa using ho)
    rw [Nat.zero_add] at h1
    refine h1 j (Nat.le_of_not_lt fun h' => ?_) hj
    rw [hout i o ho j (by omega)] at hj
    cases hj
  · obtain ⟨_, _, h3⟩ := hpo i o (by simpa using ho)
    simpa using h3 e he hb
  · have hil : i < ops.size := by
      rw [← hN, ← effs_len]
      refine Nat.lt_of_not_le fun h' => ?_
      rw [List.getElem?_eq_none h'] at he; cases he
    obtain ⟨di, e2, a1, a2, a3, a4, a5, a6⟩ := hget i _ (Array.getElem?_eq_getElem hil)
    rw [he] at a4
    cases a4
    obtain ⟨dj, b1, b2⟩ := a6 j e' he'
    unfold chk2 at b2
    simp only [Bool.or_eq_true, beq_iff_eq, Bool.and_eq_true] at b2
    rcases b2 with b2 | b2
    · omega
    · rcases b2.2 with (b2 | b2) | b2
      · rw [hpm j dj b1] at hpj; rw [hpj] at b2; cases b2
      · have := Nat.le_of_ble_eq_true b2; omega
      · simp only [indS, Bool.and_eq_true] at b2
        simp only [indep, Bool.and_eq_true]
        refine ⟨b2.1, ?_⟩
        have := b2.2
        simpa [List.all_map] using this
  · obtain ⟨di, e2, a1, a2, a3, a4, a5, a6⟩ := hget i o ho
    rw [he] at a4
    cases a4
    have hpi := hpm i di a1
    obtain ⟨t1, t2⟩ := tsel_drop (l := l) (m := m) (hout i o ho) F hwf
    have hfo : fo (fun j => Nat.testBit (pmOf D i) j) 0 (effs F) (S n l m) = S n (tsel di.pm (F.drop (F.length - i)) l) (msel di.pm (F.drop (F.length - i)) m) := by
      rw [fo_sel _ n l m F hwf, t1, t2, hpi]
    have split2 : ∀ j e', (effs F)[j]? = some e' → j ≠ i → ∃ dj, D[j]? = some dj ∧
        ((Nat.testBit dj.pm i = true ∨ ∀ x ∈ e'.ws, x.1 < m.length + di.off ∨ m.length + di.off + (max 1 (((e.ws.map (·.1)).foldl max 0) + 1 - (m.length + di.off))) ≤ x.1) ∧
        (Nat.testBit di.pm j = true ∨ Nat.testBit dj.pm i = true ∨ ((∀ t, e'.dst = some t → di.tm.contains t = true) ∧ ∀ x ∈ e'.ws, di.bm.contains x.1 = true ∨ isSomeB (defB (lk (msel di.pm (F.drop (F.length - i)) m) x.1)) = false))) := by
      intro j e' hj hne
      obtain ⟨dj, b1, b2⟩ := a6 j e' hj
      refine ⟨dj, b1, ?_⟩
      unfold chk2 at b2
      simp only [Bool.or_eq_true, beq_iff_eq, Bool.and_eq_true] at b2
      rcases b2 with b2 | ⟨⟨b2, b3⟩, _⟩
      · exact absurd b2 hne
      · refine ⟨?_, ?_⟩
        · rcases b2 with b2 | b2
          · exact .inl b2
          · refine .inr fun x hx => ?_
            simp only [List.all_eq_true, List.mem_map, Bool.or_eq_true] at b2
            rcases b2 x.1 ⟨x, hx, rfl⟩ with b2 | b2
            · rw [Nat.blt_eq] at b2; exact .inl b2
            · exact .inr (Nat.le_of_ble_eq_true b2)
        · rcases b3 with (b3 | b3) | ⟨b3, b4⟩
          · exact .inl b3
          · exact .inr (.inl b3)
          · refine .inr (.inr ⟨fun t ht => ?_, fun x hx => ?_⟩)
            · simp only [ht] at b3; exact b3
            · simp only [List.all_eq_true, List.mem_map, Bool.or_eq_true, Bool.not_eq_true'] at b4
              exact b4 x.1 ⟨x, hx, rfl⟩
    refine ⟨rdD n l m di (F.drop (F.length - i)), m.length + di.off, max 1 (((e.ws.map (·.1)).foldl max 0) + 1 - (m.length + di.off)), by omega, fun x hx => ?_, fun d hd1 hd2 => ⟨?_, fun j e' hj hne hpj x hx => ?_⟩, fun t a hta => ⟨?_, fun j e' hj hne hij hji => ?_⟩, fun b x hbx => ⟨?_, fun j e' hj hne hij hji y hy => ?_⟩, a5⟩
    · have := foldl_max_le (e.ws.map (·.1)) 0 x.1 (.inl (List.mem_map.2 ⟨x, hx, rfl⟩))
      omega
    · exact lk_ge (by show m.length ≤ d; omega)
    · obtain ⟨dj, b1, b2, _⟩ := split2 j e' hj hne
      rw [hpm j dj b1] at hpj
      rcases b2 with b2 | b2
      · rw [hpj] at b2; cases b2
      · rcases b2 x hx with b2 | b2 <;> omega
    · rw [hfo, S_rd]
      simp only [rdD] at hta
      split at hta
      · cases hta
      · exact hta
    · obtain ⟨dj, b1, _, b3⟩ := split2 j e' hj hne
      rw [hpm j dj b1] at hji
      rw [hpi] at hij
      rcases b3 with b3 | b3 | ⟨b3, _⟩
      · rw [hij] at b3; cases b3
      · rw [hji] at b3; cases b3
      · intro ht
        simp only [rdD, b3 t ht] at hta
        cases hta
    · rw [hfo, S_rd]
      simp only [rdD] at hbx
      split at hbx
      · cases hbx
      · exact hbx
    · obtain ⟨dj, b1, _, b3⟩ := split2 j e' hj hne
      rw [hpm j dj b1] at hji
      rw [hpi] at hij
      rcases b3 with b3 | b3 | ⟨_, b3⟩
      · rw [hij] at b3; cases b3
      · rw [hji] at b3; cases b3
      · intro hyb
        subst hyb
        simp only [rdD] at hbx
        rcases b3 y hy with b3 | b3
        · rw [b3] at hbx; cases hbx
        · split at hbx
          · cases hbx
          · rw [isSomeB_some hbx] at b3; cases b3
  · simp only []
    rw [fo_all]; exact hQ

theorem d_end {D : List DI} {E : List (Nat × Eff)} {Q : Ex → AS → Prop} {l' : List (Nat × AV)} {m' : List AB} (hc : chkD D m E = true) (hl : tall E l = l') (hm : mall E m = m') (h : Q .normal (S n l' m')) : chkD D m E = true ∧ Q .normal (S n (tall E l) (mall E m)) := by
  subst hl; subst hm; exact ⟨hc, h⟩

section
variable {di : DI} {D : List DI} {o : Oper} {r : List Oper} {E : List (Nat × Eff)} {k : List (Nat × Eff) → Prop}
theorem dW_mono {k k' : List (Nat × Eff) → Prop} (hk : ∀ E, k E → k' E) : ∀ (todo : List Oper) (D : List DI) (E : List (Nat × Eff)), dW P tt ops n l m D todo E k → dW P tt ops n l m D todo E k'
  | [], [], E, h => hk E h
  | [], _ :: _, E, h => hk E h
  | _ :: _, [], _, h => h
  | _ :: t, _ :: D, _, h => by
    obtain ⟨e, h1, h2⟩ := h
    exact ⟨e, h1, dW_mono hk t D _ h2⟩
theorem d_nil (h : k E) : dW P tt ops n l m D [] E k := by cases D <;> exact h
theorem d_any {e : Eff} (h : OpD P tt ops (rdD n l m di E) (m.length + di.off) o e) (hk : dW P tt ops n l m D r ((di.i, e) :: E) k) : dW P tt ops n l m (di :: D) (o :: r) E k := ⟨e, h, hk⟩
theorem d_rule {i : Nat} {d : Tmp} {av : AV} (hg : o.guard = none) (hd : o.dst = some d) (h : astep tt (rdD n l m di E) (m.length + di.off) o.op = some (av, [])) (hi : di.i = i) (hk : dW P tt ops n l m D r ((i, ⟨some d, av, []⟩) :: E) k) : dW P tt ops n l m (di :: D) (o :: r) E k := by
  subst hi; exact d_any ⟨hd.symm, by rw [hg]; exact .inl h⟩ hk
theorem d_op {op : Op} {i : Nat} {d : Tmp} {av : AV} (ho : o.op = op) (hg : o.guard = none) (hd : o.dst = some d) (h : astep tt (rdD n l m di E) (m.length + di.off) op = some (av, [])) (hi : di.i = i) (hk : dW P tt ops n l m D r ((i, ⟨some d, av, []⟩) :: E) k) : dW P tt ops n l m (di :: D) (o :: r) E k := by
  subst ho; exact d_rule hg hd h hi hk
theorem d_easy {i : Nat} {d : Tmp} {av : AV} (hg : o.guard = none) (hd : o.dst = some d) (he : easyOp o.op = true) (h : astep tt (rdD n l m di E) (m.length + di.off) o.op = some (av, [])) (hi : di.i = i) (hk : dW P tt ops n l m D r ((i, ⟨some d, av, []⟩) :: E) k) : dW P tt ops n l m (di :: D) (o :: r) E k :=
  d_rule hg hd h hi hk
theorem d_bool {i : Nat} {d : Tmp} {b : Bool} (hg : o.guard = none) (hd : o.dst = some d) (he : easyOp o.op = true) (h : astep tt (rdD n l m di E) (m.length + di.off) o.op = some (.d (.bool b), [])) (hi : di.i = i) (h1 : b = true → dW P tt ops n l m D r ((i, ⟨some d, .d (.bool true), []⟩) :: E) k) (h2 : b = false → dW P tt ops n l m D r ((i, ⟨some d, .d (.bool false), []⟩) :: E) k) : dW P tt ops n l m (di :: D) (o :: r) E k := by
  refine d_rule hg hd h hi ?_
  cases b with
  | true => exact h1 rfl
  | false => exact h2 rfl
theorem d_bool_t {i : Nat} {d : Tmp} (hg : o.guard = none) (hd : o.dst = some d) (he : easyOp o.op = true) (h : astep tt (rdD n l m di E) (m.length + di.off) o.op = some (.d (.bool true), [])) (hi : di.i = i) (h1 : dW P tt ops n l m D r ((i, ⟨some d, .d (.bool true), []⟩) :: E) k) : dW P tt ops n l m (di :: D) (o :: r) E k := d_rule hg hd h hi h1
theorem d_bool_f {i : Nat} {d : Tmp} (hg : o.guard = none) (hd : o.dst = some d) (he : easyOp o.op = true) (h : astep tt (rdD n l m di E) (m.length + di.off) o.op = some (.d (.bool false), [])) (hi : di.i = i) (h1 : dW P tt ops n l m D r ((i, ⟨some d, .d (.bool false), []⟩) :: E) k) : dW P tt ops n l m (di :: D) (o :: r) E k := d_rule hg hd h hi h1
theorem d_tidy {i : Nat} {d : Tmp} {av av' : AV} (hg : o.guard = none) (hd : o.dst = some d) (h : astep tt (rdD n l m di E) (m.length + di.off) o.op = some (av, [])) (hi : di.i = i) (ha : av = av') (hk : dW P tt ops n l m D r ((i, ⟨some d, av', []⟩) :: E) k) : dW P tt ops n l m (di :: D) (o :: r) E k := by
  subst ha; exact d_rule hg hd h hi hk
theorem d_store {i : Nat} {av : AV} {ws ws' : List (Nat × AB)} (hg : o.guard = none) (hd : o.dst = none) (h : astep tt (rdD n l m di E) (m.length + di.off) o.op = some (av, ws)) (hi : di.i = i) (hm : ws = ws') (hk : dW P tt ops n l m D r ((i, ⟨none, av, ws'⟩) :: E) k) : dW P tt ops n l m (di :: D) (o :: r) E k := by
  subst hm; subst hi; exact d_any ⟨hd.symm, by rw [hg]; exact .inl h⟩ hk
theorem d_write {i : Nat} {d : Tmp} {av av' : AV} {ws ws' : List (Nat × AB)} (hg : o.guard = none) (hd : o.dst = some d) (h : astep tt (rdD n l m di E) (m.length + di.off) o.op = some (av, ws)) (hi : di.i = i) (hm : (av, ws) = (av', ws')) (hk : dW P tt ops n l m D r ((i, ⟨some d, av', ws'⟩) :: E) k) : dW P tt ops n l m (di :: D) (o :: r) E k := by
  cases hm; subst hi; exact d_any ⟨hd.symm, by rw [hg]; exact .inl h⟩ hk
theorem d_call {i : Nat} {d : Tmp} {av av' : AV} {ws ws' : List (Nat × AB)} {v : Operand} {args : Array Operand} {ts : Array TypeId} {f : FuncId} {cap as : List AV} (hg : o.guard = none) (hd : o.dst = some d) (ho : o.op = .call { callee := .value v, args := args, argTypes := ts }) (hx : aeval (rdD n l m di E) v = some (.fn f cap)) (ha : aevals (rdD n l m di E) args.toList = some as)
    (hc : Callable P f ∧ CallR P f (rdD n l m di E) (m.length + di.off) (as ++ cap) av ws) (hi : di.i = i) (hm : (av, ws) = (av', ws')) (hk : dW P tt ops n l m D r ((i, ⟨some d, av', ws'⟩) :: E) k) : dW P tt ops n l m (di :: D) (o :: r) E k := by
  cases hm; subst hi; exact d_any ⟨hd.symm, by rw [hg]; exact .inr ⟨v, args, ts, f, cap, as, ho, hx, ha, hc.1, hc.2⟩⟩ hk
theorem d_callb {i : Nat} {d : Tmp} {b : Bool} {ws : List (Nat × AB)} {v : Operand} {args : Array Operand} {ts : Array TypeId} {f : FuncId} {cap as : List AV} (hg : o.guard = none) (hd : o.dst = some d) (ho : o.op = .call { callee := .value v, args := args, argTypes := ts }) (hx : aeval (rdD n l m di E) v = some (.fn f cap)) (ha : aevals (rdD n l m di E) args.toList = some as)
    (hc : Callable P f ∧ CallR P f (rdD n l m di E) (m.length + di.off) (as ++ cap) (.d (.bool b)) ws) (hi : di.i = i) (hm : ws = []) (h1 : b = true → dW P tt ops n l m D r ((i, ⟨some d, .d (.bool true), []⟩) :: E) k) (h2 : b = false → dW P tt ops n l m D r ((i, ⟨some d, .d (.bool false), []⟩) :: E) k) : dW P tt ops n l m (di :: D) (o :: r) E k := by
  subst hm
  refine d_call hg hd ho hx ha hc hi rfl ?_
  cases b with
  | true => exact h1 rfl
  | false => exact h2 rfl
theorem d_guard_y {j : Nat} {want : Bool} {t : Tmp} (hg : o.guard = some (j, want)) (ht : (ops[j]?).bind (·.dst) = some t) (hb : (rdD n l m di E).t t = some (.d (.bool want)))
    (h1 : dW P tt ops n l m (di :: D) ({ o with guard := none } :: r) E k) : dW P tt ops n l m (di :: D) (o :: r) E k := by
  obtain ⟨e, ⟨h2, h3⟩, h4⟩ := h1
  refine ⟨e, ⟨h2, ?_⟩, h4⟩
  rw [hg]
  exact ⟨some want, by simp only [guardV, ht, bi, hb, guardA], by simpa using h3⟩
theorem d_guard_n {i j : Nat} {want : Bool} {t : Tmp} {d : Option Tmp} (hg : o.guard = some (j, want)) (hd : o.dst = d) (ht : (ops[j]?).bind (·.dst) = some t) (hb : (rdD n l m di E).t t = some (.d (.bool !want))) (hi : di.i = i)
    (h1 : dW P tt ops n l m D r ((i, ⟨d, .non, []⟩) :: E) k) : dW P tt ops n l m (di :: D) (o :: r) E k := by
  subst hi
  refine ⟨⟨d, .non, []⟩, ⟨hd.symm, ?_⟩, h1⟩
  rw [hg]
  refine ⟨some (!want), by simp only [guardV, ht, bi, hb, guardA], ?_⟩
  have : ¬ (!want) = want := by cases want <;> decide
  simp only [Option.some.injEq, if_neg this]
  exact ⟨trivial, trivial⟩
theorem d_guard_s {i j : Nat} {want : Bool} {t : Tmp} {d : Option Tmp} (hg : o.guard = some (j, want)) (hd : o.dst = d) (ht : (ops[j]?).bind (·.dst) = some t) (hb : (rdD n l m di E).t t = some .non) (hi : di.i = i)
    (h1 : dW P tt ops n l m D r ((i, ⟨d, .non, []⟩) :: E) k) : dW P tt ops n l m (di :: D) (o :: r) E k := by
  subst hi
  refine ⟨⟨d, .non, []⟩, ⟨hd.symm, ?_⟩, h1⟩
  rw [hg]
  refine ⟨none, by simp only [guardV, ht, bi, hb, guardA], ?_⟩
  simp only [reduceCtorEq, if_false]
  exact ⟨trivial, trivial⟩
end

end

attribute [irreducible] dW

section
variable {tt : TypeId → Option TI} {ρ : Rd} {nx : Nat}

theorem r_len_map {α : Type} {f : α → List PV} {xs : List α} {args : Array Operand} {ts : Array TypeId} {x : Operand} {t e : TypeId} {i : TI} (ha : args.toList = [x]) (hs : ts.toList = [t]) (ht : tt t = some i) (hu : i.ud = .slice e) (hx : aeval ρ x = some (.d (.ls (xs.map f)))) :
    astep tt ρ nx (.call { callee := .builtin .len, args := args, argTypes := ts }) = some (.d (.int .i64 xs.length), []) := by
  simp only [astep, ha, hs, ht, hu, hx, bi_some', alist, List.length_map]

theorem r_idx_map {α : Type} {f : α → List PV} {xs : List α} {x ix : Operand} {t e : TypeId} {i j : TI} {k : IntKind} {n : Nat} (ht : tt t = some i) (hu : i.ud = .slice e) (he : tt e = some j) (hx : aeval ρ x = some (.d (.ls (xs.map f)))) (hi : aeval ρ ix = some (.d (.int k (n : Int))))
    (hl : ∀ a, (f a).length = j.size) (h : n < xs.length) : astep tt ρ nx (.indexAddr t x ix) = some (.vel none (f xs[n]) 0, []) := by
  have h0 : (0 : Int) ≤ n := by omega
  have h1 : (xs.map f)[n]? = some (f xs[n]) := by rw [List.getElem?_map, List.getElem?_eq_getElem h]; rfl
  simp only [astep, ht, hu, he, hx, hi, bi_some', aint, aindexAddr, h0, if_true, Int.toNat_natCast, h1, hl]
end

end Go.Proofs.Ytfeiaibdnnhlaaa
