import Derived.Test.Ytfeiaibdnnhlaaaq
import Derived.KernelRfl
/- A checker of type tables. -/
set_option linter.unusedVariables false
set_option linter.unusedSimpArgs false
namespace Go.Proofs.Ytfeiaibdnnhlaaa

def zEq : List Value → List PV → Bool
  | [], [] => true
  | .int k n :: l, .int k' n' :: r => k == k' && n == n' && zEq l r
  | .bool b :: l, .bool b' :: r => b == b' && zEq l r
  | .string s :: l, .str s' :: r => s.data.toList == s'.data.toList && zEq l r
  | .slice none 0 0 :: l, .ls [] :: r => zEq l r
  | _, _ => false

theorem zEq_eq : ∀ (l : List Value) (r : List PV), zEq l r = true → l = r.map zval ∧ r.all zOk = true
  | l, r, h => by
    induction l generalizing r with
    | nil => cases r with
      | nil => exact ⟨rfl, rfl⟩
      | cons _ _ => simp [zEq] at h
    | cons v l ih =>
      unfold zEq at h
      split at h
      · rename_i a b; cases b
      · rename_i k n l' k' n' r' e
        cases e
        simp only [Bool.and_eq_true, beq_iff_eq] at h
        obtain ⟨⟨rfl, rfl⟩, h⟩ := h
        obtain ⟨a, b⟩ := ih _ h
        exact ⟨by simp [zval, a], by simp [zOk, b]⟩
      · rename_i b l' b' r' e
        cases e
        simp only [Bool.and_eq_true, beq_iff_eq] at h
        obtain ⟨rfl, h⟩ := h
        obtain ⟨a, b⟩ := ih _ h
        exact ⟨by simp [zval, a], by simp [zOk, b]⟩
      · rename_i s l' s' r' e
        cases e
        simp only [Bool.and_eq_true, beq_iff_eq] at h
        obtain ⟨h0, h⟩ := h
        have : s = s' := ByteArray.ext (Array.ext' h0)
        subst this
        obtain ⟨a, b⟩ := ih _ h
        exact ⟨by simp [zval, a], by simp [zOk, b]⟩
      · rename_i l' r' e
        cases e
        obtain ⟨a, b⟩ := ih _ h
        exact ⟨by simp [zval, a], by simp [zOk, b]⟩
      · simp at h

def udEq (P : Program) (t : TypeId) (u : UD) : Bool :=
  match u, P.underlying t with
  | .bool, some .bool => true
  | .int k, some (.int k') => k == k'
  | .string, some .string => true
  | .slice e, some (.slice e') => e == e'
  | .struct fs, some (.struct F) => F.toList.map (fun f => (f.offset, f.type)) == fs && F.toList.all fun f => (P.info? f.type).isSome
  | .other, some (.struct _) => false
  | .other, some (.array _ _) => false
  | .other, some _ => true
  | _, _ => false

theorem udEq_ok {P : Program} {t : TypeId} {u : UD} (h : udEq P t u = true) : udOK P t u := by
  unfold udEq at h
  split at h
  · simpa [udOK]
  · rename_i h1; simp only [beq_iff_eq] at h; subst h; simpa [udOK]
  · simpa [udOK]
  · rename_i h1; simp only [beq_iff_eq] at h; subst h; simpa [udOK]
  · rename_i fs F h1
    simp only [Bool.and_eq_true, beq_iff_eq, List.all_eq_true] at h
    exact ⟨F, h1, h.1, h.2⟩
  · simp at h
  · simp at h
  · rename_i d hs ha h1
    exact ⟨d, h1, hs, ha⟩
  · simp at h

def cmpOk (P : Program) (t : TypeId) : Option (List KK) → Bool
  | none => true
  | some ks => flatK P 8 t == some ks && !P.eqGuardType P.depth t

def tiOk (P : Program) (t : TypeId) (i : TI) : Bool :=
  match P.info? t with
  | none => false
  | some ti => ti.size == i.size && ti.bytes == i.bytes && udEq P t i.ud && cmpOk P t i.cmp &&
    (match i.zero with
      | none => true
      | some z => z.length == i.size && (match ti.zero with | some zv => zEq zv.cells.toList z | none => false))

theorem tiOk_ok {P : Program} {t : TypeId} {i : TI} (h : tiOk P t i = true) : ∃ ti, P.info? t = some ti ∧ ti.size = i.size ∧ ti.bytes = i.bytes ∧
    (∀ z, i.zero = some z → z.length = i.size ∧ z.all zOk = true ∧ ∃ zv, ti.zero = some zv ∧ zv.cells.toList = z.map zval) ∧ udOK P t i.ud ∧
    (∀ ks, i.cmp = some ks → flatK P 8 t = some ks ∧ P.eqGuardType P.depth t = false) := by
  unfold tiOk at h
  split at h
  · cases h
  · rename_i ti hti
    simp only [Bool.and_eq_true, beq_iff_eq] at h
    obtain ⟨⟨⟨⟨h1, h2⟩, h3⟩, h4⟩, h5⟩ := h
    refine ⟨ti, hti, h1, h2, fun z hz => ?_, udEq_ok h3, fun ks hk => ?_⟩
    · rw [hz] at h5
      simp only [Bool.and_eq_true, beq_iff_eq] at h5
      obtain ⟨h5, h6⟩ := h5
      split at h6
      · rename_i zv hzv
        obtain ⟨a, b⟩ := zEq_eq _ _ h6
        exact ⟨h5, b, zv, hzv, a⟩
      · cases h6
    · rw [hk] at h4
      simp only [cmpOk, Bool.and_eq_true, beq_iff_eq, Bool.not_eq_true'] at h4
      exact h4

def ttOf (l : List (Option TI)) (t : TypeId) : Option TI := (l[t]?).bind id

def ttAll (P : Program) : Nat → List (Option TI) → Bool
  | _, [] => true
  | n, none :: l => ttAll P (n + 1) l
  | n, some i :: l => tiOk P n i && ttAll P (n + 1) l

theorem ttAll_get {P : Program} : ∀ {l : List (Option TI)} {n : Nat}, ttAll P n l = true → ∀ {k : Nat} {i : TI}, l[k]? = some (some i) → tiOk P (n + k) i = true
  | [], n, _, k, i, hk => by simp at hk
  | none :: l, n, h, k, i, hk => by
    cases k with
    | zero => simp at hk
    | succ k => have := ttAll_get (l := l) h (by simpa using hk); rwa [Nat.add_assoc, Nat.add_comm 1 k] at this
  | some j :: l, n, h, k, i, hk => by
    simp only [ttAll, Bool.and_eq_true] at h
    cases k with
    | zero => simp at hk; subst hk; exact h.1
    | succ k => have := ttAll_get (l := l) h.2 (by simpa using hk); rwa [Nat.add_assoc, Nat.add_comm 1 k] at this

theorem TTok_of {P : Program} {l : List (Option TI)} (h : ttAll P 0 l = true) : TTok P (ttOf l) := by
  intro t i hi
  unfold ttOf at hi
  cases hk : l[t]? with
  | none => rw [hk] at hi; cases hi
  | some o =>
    rw [hk] at hi
    simp only [Option.bind_some, id_eq] at hi
    subst hi
    have := ttAll_get h hk
    rw [Nat.zero_add] at this
    exact tiOk_ok this

end Go.Proofs.Ytfeiaibdnnhlaaa
