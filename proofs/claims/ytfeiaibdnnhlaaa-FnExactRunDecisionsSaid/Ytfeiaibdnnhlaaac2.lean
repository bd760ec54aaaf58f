import Derived.Test.Ytfeiaibdnnhlaaac1
/- The runner, part 2: one operation. -/
set_option linter.unusedSectionVars false
set_option linter.unusedVariables false
set_option linter.unusedSimpArgs false
namespace Go.Proofs.Ytfeiaibdnnhlaaa

section
variable {R : Type}

theorem cintOp_eq {op : BinOp} {kd : IntKind} {a b : Int} {k : PV → Option R} {r : R} (h : cintOp op kd a b k = some r) : ∃ p, aintOp op kd a b = some p ∧ k p = some r := by
  unfold cintOp at h
  split at h
  · obtain ⟨h1, h⟩ := chk_eq h
    have h1 : ¬ b = 0 := by simpa using h1
    exact ⟨_, by simp only [aintOp, if_neg h1], h⟩
  · obtain ⟨h1, h⟩ := chk_eq h
    have h1 : ¬ b = 0 := by simpa using h1
    exact ⟨_, by simp only [aintOp, if_neg h1], h⟩
  · obtain ⟨h1, h⟩ := chk_eq h
    have h1 : ¬ b < 0 := by have := of_decide_eq_true h1; omega
    exact ⟨_, by simp only [aintOp, if_neg h1], h⟩
  · obtain ⟨h1, h⟩ := chk_eq h
    have h1 : ¬ b < 0 := by have := of_decide_eq_true h1; omega
    exact ⟨_, by simp only [aintOp, if_neg h1], h⟩
  · split at h
    · exact ⟨_, by assumption, h⟩
    · cases h

def cbin (tt : TypeId → Option TI) (op : BinOp) (t : TypeId) (x y : AV) (k : PV → Option R) : Option R :=
  match x, y with
  | .d (.int kd a), .d (.int k' b) => match isShift op || kd == k' with
    | true => cintOp op kd a b k
    | false => none
  | .d (.str a), .d (.str b) => match op with
    | .add => chk (decide (((a.size + b.size : Nat) : Int) ≤ IntKind.i64.max)) (k (.str (a ++ b)))
    | op => match astrOp op a b with
      | some p => k p
      | none => none
  | x, y => match abinOp tt op t x y with
    | some p => k p
    | none => none

theorem cbin_eq {tt : TypeId → Option TI} {op : BinOp} {t : TypeId} {x y : AV} {k : PV → Option R} {r : R} (h : cbin tt op t x y k = some r) : ∃ p, abinOp tt op t x y = some p ∧ k p = some r := by
  unfold cbin at h
  split at h
  · split at h
    · rename_i hs
      obtain ⟨p, h1, h2⟩ := cintOp_eq h
      refine ⟨p, ?_, h2⟩
      simp only [abinOp]; rw [if_pos hs]; exact h1
    · cases h
  · split at h
    · obtain ⟨h1, h⟩ := chk_eq h
      have h1 := of_decide_eq_true h1
      refine ⟨_, ?_, h⟩
      simp only [abinOp, astrOp]; rw [if_neg (by omega)]
    · split at h
      · rename_i p hp
        exact ⟨p, by simpa only [abinOp] using hp, h⟩
      · cases h
  · split at h
    · exact ⟨_, by assumption, h⟩
    · cases h

def clim (n bytes : Nat) : Bool := decide (n * bytes ≤ 140737488355328)

def cappend (ρ : Rd) (nx : Nat) (i : TI) (z : List PV) (s x : AV) (k : KK1 R) : Option R :=
  match s with
  | .nil => match alist ρ x with
    | some ys => chk (widthOk i.size ys && clim ys.length i.bytes) (match decide (0 < i.size) && decide (0 < i.bytes) with
      | true => match z.all flatP, x with
        | false, .sl c => br (flatL ys) (k (.sl nx) [(nx, .ar i.size 0 ys)]) (k (.sl nx) [(c, .gone), (nx, .ar i.size 0 ys)])
        | _, _ => chk (flatL ys) (k (.sl nx) [(nx, .ar i.size 0 ys)])
      | false => none)
    | none => none
  | .sl b => match ρ.m b with
    | some (.ar e _ xs) => match alist ρ x with
      | some ys => chk (widthOk i.size ys && clim (xs.length + ys.length) i.bytes) (match e == i.size && decide (0 < i.size) && decide (0 < i.bytes) with
        | true => match z.all flatP, x with
          | false, .sl c => match c == b with
            | true => none
            | false => br (flatL ys) (k (.sl nx) [(b, .gone), (nx, .ar i.size 0 (xs ++ ys))]) (k (.sl nx) [(c, .gone), (b, .gone), (nx, .ar i.size 0 (xs ++ ys))])
          | _, _ => chk (flatL ys) (k (.sl nx) [(b, .gone), (nx, .ar i.size 0 (xs ++ ys))])
        | false => none)
      | none => none
    | _ => none
  | _ => none

theorem cappend_eq {ρ : Rd} {nx : Nat} {i : TI} {z : List PV} {s x : AV} {k : KK1 R} {r : R} (h : cappend ρ nx i z s x k = some r) : ∃ av ws, aappend ρ nx i s x = some (av, ws) ∧ k av ws = some r := by
  unfold cappend at h
  split at h
  · split at h
    · rename_i ys hys
      obtain ⟨h1, h⟩ := chk_eq h
      simp only [Bool.and_eq_true, clim] at h1
      split at h
      · rename_i h2
        simp only [Bool.and_eq_true] at h2
        have hc : (widthOk i.size ys && decide (0 < i.size) && decide (0 < i.bytes) && decide (ys.length * i.bytes ≤ 140737488355328)) = true := by simp only [h1, h2, Bool.and_self]
        split at h
        · rename_i c _
          simp only [aappend, hys, hc, if_true]
          rcases br_eq h with ⟨h3, h⟩ | ⟨h3, h⟩
          · exact ⟨_, _, by rw [if_pos h3], h⟩
          · exact ⟨_, _, by rw [if_neg (by simp [h3])], h⟩
        · obtain ⟨h3, h⟩ := chk_eq h
          simp only [aappend, hys, hc, if_true]
          exact ⟨_, _, by rw [if_pos h3], h⟩
      · cases h
    · cases h
  · rename_i b
    split at h
    · rename_i e _ xs hm
      split at h
      · rename_i ys hys
        obtain ⟨h1, h⟩ := chk_eq h
        simp only [Bool.and_eq_true, clim] at h1
        split at h
        · rename_i h2
          simp only [Bool.and_eq_true] at h2
          have hc : (e == i.size && widthOk i.size ys && decide (0 < i.size) && decide (0 < i.bytes) && decide ((xs.length + ys.length) * i.bytes ≤ 140737488355328)) = true := by simp only [h1, h2, Bool.and_self]
          split at h
          · rename_i c _
            split at h
            · cases h
            · rename_i hcb
              simp only [aappend, hm, hys, hc, if_true]
              rcases br_eq h with ⟨h3, h⟩ | ⟨h3, h⟩
              · exact ⟨_, _, by rw [if_pos h3], h⟩
              · exact ⟨_, _, by rw [if_neg (by simp [h3])]; simp only [hcb, Bool.false_eq_true, if_false], h⟩
          · obtain ⟨h3, h⟩ := chk_eq h
            simp only [aappend, hm, hys, hc, if_true]
            exact ⟨_, _, by rw [if_pos h3], h⟩
        · cases h
      · cases h
    · cases h
  · cases h

def oint (ρ : Rd) : Option Operand → Option (Option Int)
  | none => some none
  | some l => bi (aeval ρ l) fun l => bi (aint l) fun l => some (some l.2)

def cslices (tt : TypeId → Option TI) (ρ : Rd) (t : TypeId) (x : Operand) (lo hi : Option Operand) (k : KK1 R) : Option R :=
  bi (tt t) fun i => bi (aeval ρ x) fun a => bi (oint ρ lo) fun l => bi (oint ρ hi) fun h =>
    match i.ud, a with
    | .string, .d (.str s) => cslice ρ 0 (.d (.str s)) l h fun r => k r []
    | .slice _, .d (.str _) => none
    | .slice e, a => bi (tt e) fun j => cslice ρ j.size a l h fun r => k r []
    | _, _ => none

theorem cslices_eq {tt : TypeId → Option TI} {ρ : Rd} {nx : Nat} {t : TypeId} {x : Operand} {lo hi : Option Operand} {k : KK1 R} {r : R} (h : cslices tt ρ t x lo hi k = some r) : ∃ av ws, astep tt ρ nx (.slice t x lo hi none) = some (av, ws) ∧ k av ws = some r := by
  unfold cslices at h
  obtain ⟨i, h1, h⟩ := bi_eq h
  obtain ⟨a, h2, h⟩ := bi_eq h
  obtain ⟨l, h3, h⟩ := bi_eq h
  obtain ⟨hh, h4, h⟩ := bi_eq h
  split at h
  · rename_i hu
    obtain ⟨v, h6, h⟩ := cslice_eq h
    refine ⟨_, _, ?_, h⟩
    cases lo <;> cases hi <;> simp only [oint] at h3 h4 <;> (try cases h3) <;> (try cases h4) <;> simp only [astep, bi_some', h1, h2, hu, h6, *]
  · cases h
  · rename_i hu hn
    obtain ⟨j, h5, h⟩ := bi_eq h
    obtain ⟨v, h6, h⟩ := cslice_eq h
    refine ⟨_, _, ?_, h⟩
    cases lo <;> cases hi <;> simp only [oint] at h3 h4 <;> (try cases h3) <;> (try cases h4) <;> simp only [astep, bi_some', h1, h2, hu, h5, h6, *]
  · cases h

/-- One operation, but for calls of functions, and what follows it. -/
def cstep (tt : TypeId → Option TI) (ρ : Rd) (nx : Nat) (o : Op) (k : KK1 R) : Option R :=
  match o with
  | .pick c a b => bi (aeval ρ c) fun c => bi (abool c) fun t => br t (bi (aeval ρ a) fun r => k r []) (bi (aeval ρ b) fun r => k r [])
  | .indexAddr t x ix => bi (tt t) fun i => match i.ud with
    | .slice e => bi (tt e) fun j => bi (aeval ρ x) fun a => bi (aeval ρ ix) fun n => bi (aint n) fun n => cindex ρ j a n.2 fun r => k r []
    | _ => none
  | .load t x => bi (tt t) fun i => bi (szOf i) fun sz => bi (aeval ρ x) fun a => cload ρ i sz a fun r => k r []
  | .store t x y => bi (tt t) fun i => bi (aeval ρ x) fun a => bi (aeval ρ y) fun v => cstore ρ i.size a v fun ws => k .undef ws
  | .binOp op t x y _ => bi (aeval ρ x) fun a => bi (aeval ρ y) fun b => cbin tt op t a b fun p => k (.d p) []
  | .index t x ix => bi (tt t) fun i => match i.ud with
    | .string => bi (aeval ρ x) fun a => bi (aeval ρ ix) fun n => bi (aint n) fun n => match a with
      | .d (.str s) => getB s n.2 fun c => k (.d (.int .u8 c)) []
      | _ => none
    | _ => none
  | .slice t x lo hi none => cslices tt ρ t x lo hi k
  | .makeSlice t l c => bi (tt t) fun i => match i.ud with
    | .slice e => bi (tt e) fun j => bi j.zero fun z => bi (aeval ρ l) fun l => bi (aint l) fun l => bi (aeval ρ c) fun c => bi (aint c) fun c =>
      match decide (j.size = z.length) && decide (0 < j.size) with
      | true => chk (decide (0 ≤ l.2) && decide (l.2 ≤ c.2) && decide (c.2 * j.bytes ≤ 140737488355328) && decide (c.2 ≤ 140737488355328)) (k (.sl nx) [(nx, .ar j.size 0 (List.replicate l.2.toNat z))])
      | false => none
    | _ => none
  | .call { callee := .builtin .append, args, argTypes } => match args.toList, argTypes.toList with
    | [s, x], [t, u] => match Nat.beq t u with
      | true => bi (tt t) fun i => match i.ud with
        | .slice e => bi (tt e) fun j => bi j.zero fun z => bi (aeval ρ s) fun s => bi (aeval ρ x) fun x => cappend ρ nx j z s x k
        | _ => none
      | false => none
    | _, _ => none
  | o => match astep tt ρ nx o with
    | some r => k r.1 r.2
    | none => none

theorem cstep_eq {tt : TypeId → Option TI} {ρ : Rd} {nx : Nat} {o : Op} {k : KK1 R} {r : R} (h : cstep tt ρ nx o k = some r) : ∃ av ws, astep tt ρ nx o = some (av, ws) ∧ k av ws = some r := by
  unfold cstep at h
  split at h
  · obtain ⟨c, h1, h⟩ := bi_eq h
    obtain ⟨t, h2, h⟩ := bi_eq h
    rcases br_eq h with ⟨rfl, h⟩ | ⟨rfl, h⟩
    · obtain ⟨v, h3, h⟩ := bi_eq h
      exact ⟨_, _, by simp only [astep, h1, h2, bi, if_true, h3], h⟩
    · obtain ⟨v, h3, h⟩ := bi_eq h
      exact ⟨_, _, by simp only [astep, h1, h2, bi, Bool.false_eq_true, if_false, h3], h⟩
  · obtain ⟨i, h1, h⟩ := bi_eq h
    split at h
    · rename_i e hu
      obtain ⟨j, h2, h⟩ := bi_eq h
      obtain ⟨a, h3, h⟩ := bi_eq h
      obtain ⟨n, h4, h⟩ := bi_eq h
      obtain ⟨n', h5, h⟩ := bi_eq h
      obtain ⟨v, h6, h⟩ := cindex_eq h
      exact ⟨_, _, by simp only [astep, h1, hu, h2, h3, h4, h5, h6, bi], h⟩
    · cases h
  · obtain ⟨i, h1, h⟩ := bi_eq h
    obtain ⟨sz, h2, h⟩ := bi_eq h
    obtain ⟨a, h3, h⟩ := bi_eq h
    obtain ⟨v, h6, h⟩ := cload_eq h
    exact ⟨_, _, by simp only [astep, h1, h2, h3, h6, bi], h⟩
  · obtain ⟨i, h1, h⟩ := bi_eq h
    obtain ⟨sz, h2, h⟩ := bi_eq h
    obtain ⟨a, h3, h⟩ := bi_eq h
    obtain ⟨v, h6, h⟩ := cstore_eq h
    exact ⟨_, _, by simp only [astep, h1, h2, h3, h6, bi], h⟩
  · obtain ⟨sz, h2, h⟩ := bi_eq h
    obtain ⟨a, h3, h⟩ := bi_eq h
    obtain ⟨v, h6, h⟩ := cbin_eq h
    exact ⟨_, _, by simp only [astep, h2, h3, h6, bi], h⟩
  · obtain ⟨i, h1, h⟩ := bi_eq h
    split at h
    · rename_i hu
      obtain ⟨a, h3, h⟩ := bi_eq h
      obtain ⟨n, h4, h⟩ := bi_eq h
      obtain ⟨n', h5, h⟩ := bi_eq h
      split at h
      · rename_i s
        obtain ⟨h6, h⟩ := chk_eq h
        simp only [Bool.and_eq_true, decide_eq_true_eq] at h6
        refine ⟨_, _, ?_, h⟩
        simp only [astep, h1, hu, h3, h4, h5, bi_some', if_pos h6.1]
        exact bAt_get h6.2
      · cases h
    · cases h
  · exact cslices_eq h
  · obtain ⟨i, h1, h⟩ := bi_eq h
    split at h
    · rename_i e hu
      obtain ⟨j, h2, h⟩ := bi_eq h
      obtain ⟨z, h3, h⟩ := bi_eq h
      obtain ⟨l, h4, h⟩ := bi_eq h
      obtain ⟨l', h5, h⟩ := bi_eq h
      obtain ⟨c, h6, h⟩ := bi_eq h
      obtain ⟨c', h7, h⟩ := bi_eq h
      split at h
      · rename_i h8
        obtain ⟨h9, h⟩ := chk_eq h
        simp only [Bool.and_eq_true, decide_eq_true_eq, and_assoc] at h8 h9
        refine ⟨_, _, ?_, h⟩
        simp only [astep, h1, hu, h2, h3, h4, h5, h6, h7, bi_some']
        rw [if_pos ⟨h9.1, h9.2.1, h9.2.2.1, h9.2.2.2, h8.1, h8.2⟩]
      · cases h
    · cases h
  · split at h
    · rename_i args argTypes _ _ _ _ ha ht
      split at h
      · rename_i htu
        have htu := Nat.eq_of_beq_eq_true htu
        subst htu
        obtain ⟨i, h1, h⟩ := bi_eq h
        split at h
        · rename_i e hu
          obtain ⟨j, h2, h⟩ := bi_eq h
          obtain ⟨z, h3, h⟩ := bi_eq h
          obtain ⟨s, h4, h⟩ := bi_eq h
          obtain ⟨x, h5, h⟩ := bi_eq h
          obtain ⟨av, ws, h6, h⟩ := cappend_eq h
          refine ⟨av, ws, ?_, h⟩
          simp only [astep, ha, ht, if_true, h1, hu, h2, h3, h4, h5, bi_some']
          exact h6
        · cases h
      · cases h
    · cases h
  · split at h
    · rename_i r' hr
      exact ⟨r'.1, r'.2, hr, h⟩
    · cases h

end
end Go.Proofs.Ytfeiaibdnnhlaaa
