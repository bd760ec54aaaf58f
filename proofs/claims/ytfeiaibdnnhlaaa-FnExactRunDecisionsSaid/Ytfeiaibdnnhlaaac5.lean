import Derived.Test.Ytfeiaibdnnhlaaac4
/- The runner, part 5: small words for the printed texts. -/
set_option linter.unusedVariables false
set_option linter.unusedSimpArgs false
namespace Go.Proofs.Ytfeiaibdnnhlaaa

/-- A value that is given a name. -/
def bnd {α R : Type} (x : α) (k : α → Option R) : Option R := k x

def Γ0 : FuncId → Option Smr := fun _ => none
def Γc (g : FuncId) (s : Smr) (Γ : FuncId → Option Smr) (f : FuncId) : Option Smr := match Nat.beq f g with
  | true => some s
  | false => Γ f
def Λ0 : Nat → Option LSum := fun _ => none
def Λc (i : Nat) (s : LSum) (Λ : Nat → Option LSum) (j : Nat) : Option LSum := match Nat.beq j i with
  | true => some s
  | false => Λ j
def Δ0 : Nat → List DI := fun _ => []
def Δc (i : Nat) (s : List DI) (Λ : Nat → List DI) (j : Nat) : List DI := match Nat.beq j i with
  | true => s
  | false => Λ j
def Μ0 : Nat → Option Tmp := fun _ => none
def Μc (i : Nat) (s : Tmp) (Λ : Nat → Option Tmp) (j : Nat) : Option Tmp := match Nat.beq j i with
  | true => some s
  | false => Λ j

theorem Γ0_ok' {P : Program} : ∀ f s, Γ0 f = some s → SmrOK P f s := fun _ _ h => by cases h
theorem Γc_ok {P : Program} {g : FuncId} {s : Smr} {Γ : FuncId → Option Smr} (hs : SmrOK P g s) (h : ∀ f s, Γ f = some s → SmrOK P f s) : ∀ f s', Γc g s Γ f = some s' → SmrOK P f s' := by
  intro f s' h'
  unfold Γc at h'
  split at h'
  · rename_i hb
    have := Nat.eq_of_beq_eq_true hb
    subst this
    cases h'
    exact hs
  · exact h f s' h'

def lpC (c : Code) (i : Nat) : Code := (loopsIn c).getD i .skip
def lpF (f : Func) (i : Nat) : Code := match f.body with
  | some c => lpC c i
  | none => .skip

inductive LOKs (P : Program) (n n0 : Nat) (Λ : Nat → Option LSum) : List Code → Prop
  | nil : LOKs P n n0 Λ []
  | cons {b : Code} {r : List Code} (h : ∀ s, Λ (lid b) = some s → LOK P n n0 b s) (hr : LOKs P n n0 Λ r) : LOKs P n n0 Λ (b :: r)

theorem LOKs_n {P : Program} {n n0 : Nat} {Λ : Nat → Option LSum} : LOKs P n n0 Λ [] := .nil
theorem LOKs_c {P : Program} {n n0 : Nat} {Λ : Nat → Option LSum} {b : Code} {r : List Code} {l : LSum} (h1 : Λ (lid b) = some l) (h : LOK P n n0 b l) (hr : LOKs P n n0 Λ r) : LOKs P n n0 Λ (b :: r) :=
  .cons (fun s hs => by rw [h1] at hs; cases hs; exact h) hr

theorem LOKs_all {P : Program} {n n0 : Nat} {Λ : Nat → Option LSum} {bs : List Code} (h : LOKs P n n0 Λ bs) : ∀ b ∈ bs, ∀ s, Λ (lid b) = some s → LOK P n n0 b s := by
  induction h with
  | nil => intro b hb; cases hb
  | cons h hr ih =>
    intro b' hb'
    rcases List.mem_cons.1 hb' with rfl | hb'
    · exact h
    · exact ih b' hb'

theorem LOKs_of {P : Program} {n n0 : Nat} {Λ : Nat → Option LSum} {c : Code} {bs : List Code} (hb : loopsIn c = bs) (h : LOKs P n n0 Λ bs) : ∀ b ∈ loopsIn c, ∀ s, Λ (lid b) = some s → LOK P n n0 b s := by
  rw [hb]; exact LOKs_all h
theorem LOKs_ofF {P : Program} {n n0 : Nat} {Λ : Nat → Option LSum} {f : Func} {bs : List Code} (hb : f.body.map loopsIn = some bs) (h : LOKs P n n0 Λ bs) : ∀ c, f.body = some c → ∀ b ∈ loopsIn c, ∀ s, Λ (lid b) = some s → LOK P n n0 b s := by
  intro c hc
  rw [hc] at hb
  exact LOKs_of (by simpa using hb) h

theorem gcf_mono {R : Type} {n n0 : Nat} {live : List Nat} {k k' : TL → List AB → Option R} {r : R} (h : ∀ l m, k l m = some r → k' l m = some r) : ∀ {wd : List (Tmp × Nat)} {l : TL} {m : List AB}, gcf n n0 wd live l m k = some r → gcf n n0 wd live l m k' = some r
  | [], l, m, h' => by
    simp only [gcf, wid, gcf0] at h' ⊢
    split at h'
    · exact h _ _ h'
    · cases h'
  | (t, e) :: wd, l, m, h' => by
    simp only [gcf, wid] at h' ⊢
    split at h'
    · exact gcf_mono h (wd := wd) h'
    · exact gcf_mono h (wd := wd) h'

mutual
/-- A nil slice as a list. -/
def nilAV : AV → AV
  | .nil => .d (.ls [])
  | .agg cs => .agg (nilAVs cs)
  | a => a
def nilAVs : List AV → List AV
  | [] => []
  | a :: l => nilAV a :: nilAVs l
end

theorem nilAVs_get : ∀ (cs : List AV), (nilAVs cs).length = cs.length ∧ ∀ (i : Nat), (nilAVs cs)[i]? = (cs[i]?).map nilAV
  | [] => ⟨rfl, fun i => by simp [nilAVs]⟩
  | a :: cs => by
    obtain ⟨h1, h2⟩ := nilAVs_get cs
    refine ⟨by simp [nilAVs, h1], fun i => ?_⟩
    cases i with
    | zero => simp [nilAVs]
    | succ i => simp [nilAVs, h2]

theorem RA.nl {w : World} {g : Gh} {mem : List AB} {a : AV} {v : Value} (h : RA w g mem a v) : RA w g mem (nilAV a) v := by
  induction h with
  | nil => exact .d _ _ (.nil _ _)
  | agg cs vs hl h1 h ih =>
    obtain ⟨g1, g2⟩ := nilAVs_get cs
    refine .agg _ _ (by rw [g1]; exact hl) h1 (fun i c v hc hv => ?_)
    rw [g2] at hc
    cases hi : cs[i]? with
    | none => rw [hi] at hc; cases hc
    | some c' => rw [hi] at hc; cases hc; exact ih i c' v hi hv
  | undef v => exact .undef v
  | non => exact .non
  | d p v h => exact .d p v h
  | tv b n xs v h h1 => exact .tv b n xs v h h1
  | sl b v h h1 => exact .sl b v h h1
  | ref b o v h h1 => exact .ref b o v h h1
  | el b i o v h h1 => exact .el b i o v h h1
  | velN cells o v h => exact .velN cells o v h
  | velS b n cells o v h h1 => exact .velS b n cells o v h h1
  | tup cs vs hl h ih => exact .tup cs vs hl h
  | fn f cs vs hl h ih => exact .fn f cs vs hl h

theorem Spec.nl {P : Program} {f : FuncId} {args args' : List AV} {mem : List AB} {res : AV} {mem1 : List AB} (hA : nilAVs args = args') (h : Spec P f args' mem res mem1) : Spec P f args mem res mem1 := by
  subst hA
  refine ⟨h.1, fun w g vs hm hA => ?_⟩
  obtain ⟨g1, g2⟩ := nilAVs_get args
  refine h.2 w g vs hm ⟨by rw [g1]; exact hA.1, fun i c u hc hu => ?_⟩
  rw [g2] at hc
  cases hi : args[i]? with
  | none => rw [hi] at hc; cases hc
  | some c' => rw [hi] at hc; cases hc; exact (hA.2 i c' u hi hu).nl

theorem Nat.beq_eq_true_eq {a b : Nat} : (Nat.beq a b = true) = (a = b) := propext ⟨Nat.eq_of_beq_eq_true, fun h => by subst h; exact Nat.beq_refl a⟩

end Go.Proofs.Ytfeiaibdnnhlaaa
