import Derived.Test.Ytfeiaibdnnhlaaao
import Derived.Tactics
import Derived.LoopN
/- The abstract interpreter, part 16: operations one behind the other, code, functions. -/
set_option linter.unusedSectionVars false
set_option linter.unusedVariables false
set_option linter.unusedSimpArgs false
namespace Go.Proofs.Ytfeiaibdnnhlaaa

def aevals (ρ : Rd) : List Operand → Option (List AV)
  | [] => some []
  | x :: l => bi (aeval ρ x) fun a => bi (aevals ρ l) fun r => some (a :: r)

/-- One operation: by itself, or a call by a contract. -/
def OpR (P : Program) (tt : TypeId → Option TI) (ρ : Rd) (nx : Nat) (op : Op) (av : AV) (ws : List (Nat × AB)) : Prop :=
  astep tt ρ nx op = some (av, ws) ∨
  ∃ x args ts f cap as, op = .call { callee := .value x, args := args, argTypes := ts } ∧ aeval ρ x = some (.fn f cap) ∧ aevals ρ args.toList = some as ∧ Callable P f ∧ CallR P f ρ nx (as ++ cap) av ws

section
variable {P : Program} {tt : TypeId → Option TI} (hT : TTok P tt) {σ : AS} {w : World} {g : Gh} {a : Act}

theorem aevals_RA (hr : Rel σ w g a) : ∀ {xs : List Operand} {as : List AV}, aevals σ.rd xs = some as → AllRA w g σ.mem as (xs.map a.eval)
  | [], as, h => by simp only [aevals] at h; cases h; exact ⟨rfl, fun i c u hc _ => by simp at hc⟩
  | x :: xs, as, h => by
    simp only [aevals] at h
    obtain ⟨b, hb, h⟩ := bi_eq h
    obtain ⟨r, hr', h⟩ := bi_eq h
    cases h
    have ih := aevals_RA hr hr'
    refine ⟨by simp [ih.1], fun i c u hc hu => ?_⟩
    cases i with
    | zero => simp at hc hu; subst hc; subst hu; exact aeval_sound hr hb
    | succ i => exact ih.2 i c u (by simpa using hc) (by simpa using hu)

theorem AllRA.append {mem : List AB} {as bs : List AV} {us vs : List Value} (h1 : AllRA w g mem as us) (h2 : AllRA w g mem bs vs) : AllRA w g mem (as ++ bs) (us ++ vs) := by
  refine ⟨by simp [h1.1, h2.1], fun i c u hc hu => ?_⟩
  rw [List.getElem?_append] at hc hu
  by_cases hi : i < as.length
  · rw [if_pos hi] at hc
    rw [if_pos (by rw [← h1.1]; exact hi)] at hu
    exact h1.2 i c u hc hu
  · rw [if_neg hi] at hc
    rw [if_neg (by rw [← h1.1]; exact hi)] at hu
    rw [h1.1] at hc
    exact h2.2 _ c u hc hu

include hT in
theorem op_wp (hr : Rel σ w g a) {o : Oper} {nx c : Nat} (hnx : ∀ j, j < c → lk σ.mem (nx + j) = .fut) (hc0 : 0 < c) {av : AV} {ws : List (Nat × AB)} (hcw : ∀ x ∈ ws, x.1 < nx + c) (h : OpR P tt σ.rd nx o.op av ws) {K : Act → World → Prop} {Q : Exit → Act → World → Prop}
    (hK : ∀ w' g' v, Step w g σ.mem w' g' (appW ws σ.mem) → Rel (σ.app o.dst av ws) w' g' (a.put o.dst v) → K (a.put o.dst v) w') : o.wp P a w K Q := by
  rcases h with h | ⟨x, args, ts, f, cap, as, hop, hx, has, ⟨fn, hf, hb, hn⟩, hc⟩
  · obtain ⟨n, v, w', g', h1, h2, h3, h4⟩ := astep_sound hT hr (hnx 0 hc0) h
    have := hK w' g' v h3 (hr.step h3 h4)
    unfold Oper.wp
    rw [h1]
    rcases h2 with rfl | ⟨rfl, rfl⟩
    · exact this
    · exact this
  · have hA := aeval_sound hr hx
    generalize hv : a.eval x = v at hA
    cases hA with
    | fn _ _ vs hl h0 =>
      have hAll : AllRA w g σ.mem (as ++ cap) (args.toList.map a.eval ++ vs.toList) := (aevals_RA hr has).append ⟨by simpa using hl, fun i c u hc hu => h0 i c u hc (by simpa using hu)⟩
      have hcall := call_sound hr.mem hAll hnx hcw hc
      unfold Oper.wp
      have hrun : (execOp a.eval o).run P w = .ok (.enter f (args.toList.map a.eval ++ vs.toList).toArray) w := by
        have hb' : fn.body.isNone = false := by cases h : fn.body <;> simp_all
        have hargs : args.map a.eval ++ vs = (args.toList.map a.eval ++ vs.toList).toArray := by apply Array.ext'; simp
        simp only [execOp, hop, resolve, hv, Deferred.ofValue, Sem.run_bind, Sem.run_pure, Result.andThen_ok, invoke, callFunc, run_program, hf, hn, hb', Bool.false_eq_true, if_false, Array.empty_append, hargs]
      rw [hrun]
      simp only [Oper.upon]
      refine hcall.mono ?_
      rintro e w' ⟨v, g', rfl, S, R⟩
      exact hK w' g' v S (hr.step S R)

end

def wsMax : List (Nat × AB) → Nat
  | [] => 0
  | x :: l => max x.1 (wsMax l)

theorem wsMax_le : ∀ {l : List (Nat × AB)} {x : Nat × AB}, x ∈ l → x.1 ≤ wsMax l
  | y :: l, x, h => by
    simp only [wsMax]
    rcases List.mem_cons.1 h with rfl | h
    · exact Nat.le_max_left _ _
    · exact Nat.le_trans (wsMax_le h) (Nat.le_max_right _ _)

/-- The value that a guard looks at: none if it is surely no bool. -/
def guardA : AV → Option (Option Bool)
  | .d (.bool b) => some (some b)
  | .non => some none
  | _ => none

def guardV (ρ : Rd) (ops : Array Oper) (j : Nat) : Option (Option Bool) :=
  bi ((ops[j]?).bind (·.dst)) fun t => bi (ρ.t t) guardA

/-- Operations one behind the other. -/
def aops (P : Program) (tt : TypeId → Option TI) (ops : Array Oper) : List Oper → AS → (AS → Prop) → Prop
  | [], σ, k => k σ
  | o :: l, σ, k => match o.guard with
    | none => ∃ av ws, OpR P tt σ.rd σ.mem.length o.op av ws ∧ aops P tt ops l (σ.app o.dst av ws) k
    | some (j, want) => match guardV σ.rd ops j with
      | none => False
      | some b => if b = some want then ∃ av ws, OpR P tt σ.rd σ.mem.length o.op av ws ∧ aops P tt ops l (σ.app o.dst av ws) k
        else aops P tt ops l (σ.app o.dst .non []) k

inductive Ex where
  | normal
  | exit (id : Nat)
  | ret
  deriving DecidableEq

/-- What is kept from the entry of the function on. -/
structure Env (w0 : World) (g0 : Gh) (mem0 : List AB) (w : World) (g : Gh) (mem : List AB) : Prop where
  fr : Fr w0 g0 mem0 w g
  kn : ∀ b, lk mem0 b ≠ .fut → lk mem b ≠ .fut

theorem Env.step {w0 w w' : World} {g0 g g' : Gh} {mem0 mem mem' : List AB} (h : Env w0 g0 mem0 w g mem) (S : Step w g mem w' g' mem') : Env w0 g0 mem0 w' g' mem' :=
  ⟨h.fr.trans S.fr h.kn, fun b hb => S.keep.nofut b (h.kn b hb)⟩

def Post (w0 : World) (g0 : Gh) (mem0 : List AB) (Q : Ex → AS → Prop) : Exit → Act → World → Prop
  | .normal, a, w => ∃ σ g, Rel σ w g a ∧ Env w0 g0 mem0 w g σ.mem ∧ Q .normal σ
  | .exit id, a, w => ∃ σ g, Rel σ w g a ∧ Env w0 g0 mem0 w g σ.mem ∧ Q (.exit id) σ
  | .ret, a, w => ∃ σ g, Rel σ w g a ∧ Env w0 g0 mem0 w g σ.mem ∧ Q .ret σ
  | _, _, _ => False

theorem lk_ge {mem : List AB} {b : Nat} (h : mem.length ≤ b) : lk mem b = .fut := by simp [lk, List.getD, List.getElem?_eq_none h]

section
variable {P : Program} {tt : TypeId → Option TI} (hT : TTok P tt) {w0 : World} {g0 : Gh} {mem0 : List AB}

theorem yielded_of {σ : AS} {w : World} {g : Gh} {a : Act} (hr : Rel σ w g a) {ops : Array Oper} {j : Nat} {b : Option Bool} (hb : guardV σ.rd ops j = some b) : yielded ops a.tmps j = b := by
  unfold guardV at hb
  obtain ⟨t, ht, hb⟩ := bi_eq hb
  obtain ⟨av, hav, hb⟩ := bi_eq hb
  obtain ⟨h1, _⟩ := defA_eq hav
  have hR := hr.tm t av h1
  have hlt : t < a.tmps.size := by
    rw [← hr.sz]
    refine Nat.lt_of_not_le fun h' => ?_
    rw [List.getElem?_eq_none h'] at h1; cases h1
  unfold guardA at hb
  split at hb
  · cases hb
    have := RA_bool hR
    simp only [yielded, ht, Option.bind_some]
    simp [Array.getD_eq_getD_getElem?, hlt] at this
    simp [hlt, this]
  · cases hb
    generalize hv : a.tmps.getD t undef = v at hR
    cases hR
    simp only [yielded, ht, Option.bind_some]
    simp [Array.getD_eq_getD_getElem?, hlt] at hv
    simp [hlt, hv, undef]
  · cases hb

theorem Rel.skip {σ : AS} {w : World} {g : Gh} {a : Act} (hr : Rel σ w g a) (dst : Option Tmp) : Rel (σ.app dst .non []) w g (a.put dst undef) :=
  hr.step (Step.refl hr.mem) .non

include hT in
theorem aops_sound {ops : Array Oper} {Q : Exit → Act → World → Prop} {k : AS → Prop} (hQ : ∀ σ w g a, Rel σ w g a → Env w0 g0 mem0 w g σ.mem → k σ → Q .normal a w) : ∀ (l : List Oper) {σ : AS} {w : World} {g : Gh} {a : Act}, Rel σ w g a → Env w0 g0 mem0 w g σ.mem →
    aops P tt ops l σ k → wpList P ops Q l a w
  | [], σ, w, g, a, hr, he, h => hQ σ w g a hr he h
  | o :: l, σ, w, g, a, hr, he, h => by
    refine wpList_step fun K hK => ?_
    have exec : (∃ av ws, OpR P tt σ.rd σ.mem.length o.op av ws ∧ aops P tt ops l (σ.app o.dst av ws) k) → o.wp P a w K Q := by
      rintro ⟨av, ws, h1, h2⟩
      exact op_wp hT hr (c := wsMax ws + 1) (fun j _ => lk_ge (by omega)) (by omega) (fun x hx => by have := wsMax_le hx; omega) h1 fun w' g' v S R => hK _ _ (aops_sound hQ l R (he.step S) h2)
    simp only [aops] at h
    split at h
    · rename_i hg
      simp only [Region.wanted, hg, if_true]
      exact exec h
    · rename_i j want hg
      split at h
      · exact h.elim
      · rename_i b hb
        have hy := yielded_of hr hb
        simp only [Region.wanted, hg, hy]
        split at h
        · rename_i hbw
          subst hbw
          simp only [beq_self_eq_true, if_true]
          exact exec h
        · rename_i hbw
          rw [if_neg (by simpa using hbw)]
          exact hK _ _ (aops_sound hQ l (hr.skip o.dst) he h)

end
end Go.Proofs.Ytfeiaibdnnhlaaa
