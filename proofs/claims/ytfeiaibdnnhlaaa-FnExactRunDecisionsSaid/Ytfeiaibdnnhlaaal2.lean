import Derived.Test.Ytfeiaibdnnhlaaag7
import Derived.Test.Ytfeiaibdnnhlaaab2
import Derived.Test.YtfeiaibdnnhlaaaRows
import Derived.ChangeOld
import Derived.ShutString
/- Proved: for every list of decisions, the program's RunDecisions gives what the reference's gives; it leaves its arguments as they are and shares no memory. Conditions: none beside the row's own. -/
set_option linter.unusedVariables false
set_option linter.unusedSimpArgs false
namespace Go.Proofs.Ytfeiaibdnnhlaaa.runDecisions
open Go.ChangeShapes Go.WideShapes Go.ChangeAt Go.RowKit

theorem own : ownKnob Try.prog.godebug = none := by kernel_rfl
theorem laidOut : laidOutB Try.prog = true := by kernel_rfl

def TP : Ty := .st [.int .i64, .int .i64, .int .i64, .str, .int .i64, .int .i64, .int .i64]
def TD : Ty := .st [.int .i64, TP]

theorem sh_list {α : Type} {T : Ty} {pv : α → List PV} {Q : α → Prop} (h : ∀ x, Sh T x → ∃ a, x = pv a ∧ Q a) : ∀ {xs : List (List PV)}, (∀ x ∈ xs, Sh T x) → ∃ av : List α, xs = av.map pv ∧ ∀ a ∈ av, Q a
  | [], _ => ⟨[], rfl, fun a ha => by cases ha⟩
  | x :: l, hx => by
    obtain ⟨av, h1, h2⟩ := sh_list h (xs := l) fun y hy => hx y (List.mem_cons_of_mem _ hy)
    obtain ⟨a, h3, h4⟩ := h x (hx x (List.mem_cons_self ..))
    refine ⟨a :: av, by rw [h1, h3]; rfl, fun b hb => ?_⟩
    rcases List.mem_cons.1 hb with rfl | hb
    · exact h4
    · exact h2 b hb
theorem sh_plan {x : List PV} (h : Sh TP x) : ∃ p : Plan, x = p.pv ∧ p.key.size ≤ reachBytes := by
  simp only [TP, Sh, ShL] at h
  obtain ⟨_, _, rfl, ⟨a, rfl, _⟩, _, _, rfl, ⟨b, rfl, _⟩, _, _, rfl, ⟨c, rfl, _⟩, _, _, rfl, ⟨s, rfl, hs⟩, _, _, rfl, ⟨d, rfl, _⟩, _, _, rfl, ⟨e, rfl, _⟩, _, _, rfl, ⟨f, rfl, _⟩, rfl⟩ := h
  exact ⟨⟨a, b, c, s, d, e, f⟩, rfl, hs⟩

theorem sh_dec {x : List PV} (h : Sh TD x) : ∃ d : Decision, x = d.pv ∧ d.begun.key.size ≤ reachBytes := by
  simp only [TD, Sh, ShL] at h
  obtain ⟨_, _, rfl, ⟨a, rfl, _⟩, _, _, rfl, hp, rfl⟩ := h
  obtain ⟨p, rfl, hk⟩ := sh_plan hp
  exact ⟨⟨a, p⟩, rfl, hk⟩

theorem sh_args {av : List AV} (h : ShArgs [.ls 72 TD] av) : ∃ ds : List Decision, av = [.d (.ls (ds.map Decision.pv))] ∧ ds.length ≤ 140737488355328 ∧ ∀ d ∈ ds, d.begun.key.size ≤ 140737488355328 := by
  have hre : reachBytes = 140737488351232 := rfl
  simp only [ShArgs] at h
  obtain ⟨ps, l, rfl, hxs, rfl⟩ := h
  simp only [Sh] at hxs
  obtain ⟨xs, hx, hxl, hxs⟩ := hxs
  cases hx
  obtain ⟨ds, rfl, hds⟩ := sh_list (fun x hx => sh_dec hx) hxs
  rw [List.length_map] at hxl
  refine ⟨ds, rfl, by omega, fun d hd => ?_⟩
  have := hds d hd
  omega

theorem tys : TyArgs tt 8 [44] [.ls 72 TD] := ⟨.ls 72 TD, [], rfl, by kernel_rfl, rfl⟩

theorem contract {av : List AV} (h : ShArgs [.ls 72 TD] av) : ∃ mem1, Spec Try.prog 4 av [] (.d (.bool true)) mem1 := by
  suffices h : laws_FnExactRunDecisions_sm.run (AV × List AB) av [] (fun a m => some (a, m)) = some (.d (.bool true), []) by
    obtain ⟨res, mem1, hs, he⟩ := laws_FnExactRunDecisions_ok _ _ _ _ _ h
    cases he
    exact ⟨_, hs⟩
  obtain ⟨ds, rfl, h1, h2⟩ := sh_args h
  have e2 : (ds.all fun d => decide (d.begun.key.size ≤ 140737488355328)) = true := by
    simp only [List.all_eq_true, decide_eq_true_eq]; exact h2
  show bi (unDecs (ds.map Decision.pv)) _ = _
  rw [unDecs_map, bi_s, decide_eq_true h1, e2]
  rfl

set_option maxRecDepth 100000 in
theorem lifted (os : Os) (started : os.Started) (H : Type) (enc : TypeId × Value → H) :
    ReturnsInHanded {} Try.checked os 4 .any (Go.Proofs.Ytfeiaibdnnhlaaa.Rows.fnExactRunDecisionsSpec.pre6 enc Try.prog Try.f4 Go.Proofs.Ytfeiaibdnnhlaaa.Rows.fnExactRunDecisionsRow.domain false) (Go.Proofs.Ytfeiaibdnnhlaaa.Rows.fnExactRunDecisionsSpec.post enc Try.prog Try.f4 false true false false) := by
  refine returnsInHanded_of_change_sized (C := Try.checked) own started (by kernel_rfl) Try.func4
    (ChangeSpec.witness6 (enc := enc) (C := Try.checked) false ⟨#[], #[.slice none 0 0], []⟩ 8 (by kernel_rfl) (by kernel_rfl) (by kernel_rfl) (by kernel_rfl)) ?_
  intro W base args ds gs before hval0 hW hcnd hsz0 _
  have hW' := hW
  obtain ⟨p, q, hA0, hV, rfl, hfz, hnd⟩ := hW
  obtain ⟨rfl, rfl⟩ := trodVars_none hV
  have hpar : Try.f4.params.toList = [44] := by rw [Try.params4]
  have hval : ∀ (j : Nat) t v, [44][j]? = some t → args.toList[j]? = some v → Value.okWide Try.prog W .any base t v := fun j t v a b => hval0 j t v (by rw [Try.params4]; simpa using a) (by simpa using b)
  have hA : DataW.TrodAll enc Try.prog W 0 (fun _ => true) true [44] args.toList ds p := by rw [← hpar]; exact hA0
  have hsz : ∀ y ∈ DataW.weightsEach Try.prog [44] ds, y ≤ reachBytes := by
    have h := hsz0
    rw [hpar] at h
    simp only [List.append_nil, List.all_eq_true, decide_eq_true_eq] at h
    exact h
  obtain ⟨av, h1, h2⟩ := args_read tt_ok tys hval hA hsz
  obtain ⟨mem1, hs⟩ := contract h1
  refine (law_calls h2 hs).mono fun e W' ⟨he, ho, hu, hb⟩ => ?_
  subst he
  have hst := stays_all laidOut hb (ts := [44]) (by
    intro t ht
    simp only [List.mem_cons, List.mem_nil_iff, or_false] at ht
    rcases ht with rfl
    exact ⟨by kernel_rfl, of_decide_eq_true (by kernel_rfl)⟩) hA
  obtain ⟨v0, vs0, d0, ds0, p0, q0, hargs, rfl, rfl, g0, r0⟩ := trodAll_cons hA
  obtain ⟨rfl, rfl, rfl⟩ := trodAll_nil r0
  rw [hargs] at hst
  refine ⟨_, rfl, _, _, _, [], p0 ++ [], [], hW', trodAll_mk1 (shut_bool Try.underlying4 _), ?_, rfl, kept_of ho hu hb _, fun h => by cases h⟩
  rw [hpar, hargs]
  exact hst

set_option maxRecDepth 100000 in
theorem over : Go.Proofs.Ytfeiaibdnnhlaaa.Rows.fnExactRunDecisionsRow.holds Go.Proofs.Ytfeiaibdnnhlaaa.Try.pinned (OpenSpec.ofChange Go.Proofs.Ytfeiaibdnnhlaaa.Rows.fnExactRunDecisionsSpec) :=
  OpenClaim.holds_of_wide 4 Try.f4 rfl rfl rfl rfl rfl rfl rfl ⟨rfl, rfl, rfl, rfl, rfl⟩ rfl rfl rfl rfl rfl (by kernel_rfl) Try.func4 (by kernel_rfl)
    (of_decide_eq_true (by kernel_rfl)) (by unfold Func.isWrapper; first | (rw [if_pos (by decide +kernel)]; kernel_rfl) | (rw [if_neg (by decide +kernel)]; exact ⟨rfl, rfl⟩))
    (fun os started H enc _ => lifted os started H enc)

end Go.Proofs.Ytfeiaibdnnhlaaa.runDecisions

namespace Go.Proofs.Ytfeiaibdnnhlaaa
/-- The row, under a short name. -/
theorem runDecisions_holds : Go.Proofs.Ytfeiaibdnnhlaaa.Rows.FnExactRunDecisionsSaid := runDecisions.over
#print axioms runDecisions_holds
end Go.Proofs.Ytfeiaibdnnhlaaa
