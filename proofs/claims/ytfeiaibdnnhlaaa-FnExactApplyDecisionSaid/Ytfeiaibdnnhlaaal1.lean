import Derived.Test.Ytfeiaibdnnhlaaag6
import Derived.Test.Ytfeiaibdnnhlaaab2
import Derived.Test.YtfeiaibdnnhlaaaRows
import Derived.ChangeOld
import Derived.ShutString
/- Proved: for every master and every decision, the program's ApplyDecision gives what the reference's gives; it leaves its arguments av they are and shares no memory. Conditions: none beside the row's own. -/
set_option linter.unusedVariables false
set_option linter.unusedSimpArgs false
namespace Go.Proofs.Ytfeiaibdnnhlaaa.applyDecision
open Go.ChangeShapes Go.WideShapes Go.ChangeAt Go.RowKit

theorem own : ownKnob Try.prog.godebug = none := by kernel_rfl
theorem laidOut : laidOutB Try.prog = true := by kernel_rfl

def TR : Ty := .st [.int .i64, .st [.str, .str]]
def TP : Ty := .st [.int .i64, .int .i64, .int .i64, .str, .int .i64, .int .i64, .int .i64]
def TM : Ty := .st [.ls 40 TR, .int .i64, TP, .int .i64]
def TD : Ty := .st [.int .i64, TP]

theorem sh_route {x : List PV} (h : Sh TR x) : ∃ r : Route, x = r.pv ∧ r.low.size ≤ reachBytes ∧ r.high.size ≤ reachBytes := by
  simp only [TR, Sh, ShL] at h
  obtain ⟨_, _, rfl, ⟨n, rfl, _⟩, _, _, rfl, ⟨_, _, rfl, ⟨s, rfl, hs⟩, _, _, rfl, ⟨t, rfl, ht⟩, rfl⟩, rfl⟩ := h
  exact ⟨⟨n, s, t⟩, rfl, hs, ht⟩
theorem sh_list {α : Type} {T : Ty} {pv : α → List PV} {Q : α → Prop} (h : ∀ x, Sh T x → ∃ a, x = pv a ∧ Q a) : ∀ {xs : List (List PV)}, (∀ x ∈ xs, Sh T x) → ∃ av : List α, xs = av.map pv ∧ ∀ a ∈ av, Q a
  | [], _ => ⟨[], rfl, fun a ha => by cases ha⟩
  | x :: l, hx => by
    obtain ⟨av, h1, h2⟩ := sh_list h (xs := l) fun y hy => hx y (List.mem_cons_of_mem _ hy)
    obtain ⟨a, h3, h4⟩ := h x (hx x (List.mem_cons_self ..))
    refine ⟨a :: av, by rw [h1, h3]; rfl, fun b hb => ?_⟩
    rcases List.mem_cons.1 hb with rfl | hb
    · exact h4
    · exact h2 b hb
theorem sh_plan {x : List PV} (h : Sh TP x) : ∃ p : Plan, x = p.pv ∧ p.key.size ≤ reachBytes := by
  simp only [TP, Sh, ShL] at h
  obtain ⟨_, _, rfl, ⟨a, rfl, _⟩, _, _, rfl, ⟨b, rfl, _⟩, _, _, rfl, ⟨c, rfl, _⟩, _, _, rfl, ⟨s, rfl, hs⟩, _, _, rfl, ⟨d, rfl, _⟩, _, _, rfl, ⟨e, rfl, _⟩, _, _, rfl, ⟨f, rfl, _⟩, rfl⟩ := h
  exact ⟨⟨a, b, c, s, d, e, f⟩, rfl, hs⟩

theorem sh_args {av : List AV} (h : ShArgs [TM, TD] av) : ∃ (rs : List Route) (sh : Int) (p : Plan) (tn dk : Int) (q : Plan),
    av = [.agg [.d (.ls (rs.map Route.pv)), .d (.int .i64 sh), .d (.int .i64 p.kind), .d (.int .i64 p.first), .d (.int .i64 p.second), .d (.str p.key), .d (.int .i64 p.src), .d (.int .i64 p.dst), .d (.int .i64 p.step), .d (.int .i64 tn)],
      .agg [.d (.int .i64 dk), .d (.int .i64 q.kind), .d (.int .i64 q.first), .d (.int .i64 q.second), .d (.str q.key), .d (.int .i64 q.src), .d (.int .i64 q.dst), .d (.int .i64 q.step)]] ∧
    rs.length ≤ 140737488355328 ∧ (∀ r ∈ rs, r.low.size ≤ 140737488355328 ∧ r.high.size ≤ 140737488355328) ∧ p.key.size ≤ 140737488355328 ∧ q.key.size ≤ 140737488355328 := by
  have hre : reachBytes = 140737488351232 := rfl
  simp only [TM, TD, ShArgs, ShL] at h
  obtain ⟨ps, l, rfl, ⟨_, _, rfl, hxs, _, _, rfl, hsh, _, _, rfl, hp, _, _, rfl, htn, rfl⟩, qs, l2, rfl, ⟨_, _, rfl, hdk, _, _, rfl, hq, rfl⟩, rfl⟩ := h
  obtain ⟨p, rfl, hpk⟩ := sh_plan hp
  obtain ⟨q, rfl, hqk⟩ := sh_plan hq
  simp only [Sh] at hxs hsh htn hdk
  obtain ⟨xs, rfl, hxl, hxs⟩ := hxs
  obtain ⟨sh, rfl, _⟩ := hsh
  obtain ⟨tn, rfl, _⟩ := htn
  obtain ⟨dk, rfl, _⟩ := hdk
  obtain ⟨rs, rfl, hrs⟩ := sh_list (fun x hx => sh_route hx) hxs
  rw [List.length_map] at hxl
  refine ⟨rs, sh, p, tn, dk, q, rfl, by omega, fun r hr => ?_, by omega, by omega⟩
  have := hrs r hr
  omega

theorem tys : TyArgs tt 8 [26, 28] [TM, TD] := ⟨TM, [TD], rfl, by kernel_rfl, TD, [], rfl, by kernel_rfl, rfl⟩

theorem contract {av : List AV} (h : ShArgs [TM, TD] av) : ∃ mem1, Spec Try.prog 3 av [] (.d (.bool true)) mem1 := by
  suffices h : laws_FnExactApplyDecision_sm.run (AV × List AB) av [] (fun a m => some (a, m)) = some (.d (.bool true), []) by
    obtain ⟨res, mem1, hs, he⟩ := laws_FnExactApplyDecision_ok _ _ _ _ _ h
    cases he
    exact ⟨_, hs⟩
  obtain ⟨rs, sh, p, tn, dk, q, rfl, h1, h2, h3, h4⟩ := sh_args h
  have e2 : (rs.all fun r => decide (r.low.size ≤ 140737488355328) && decide (r.high.size ≤ 140737488355328)) = true := by
    simp only [List.all_eq_true, Bool.and_eq_true, decide_eq_true_eq]; exact h2
  show bi (unRoutes (rs.map Route.pv)) _ = _
  rw [unRoutes_map, bi_s, decide_eq_true h1, e2, decide_eq_true h3, decide_eq_true h4]
  rfl

set_option maxRecDepth 100000 in
theorem lifted (os : Os) (started : os.Started) (H : Type) (enc : TypeId × Value → H) :
    ReturnsInHanded {} Try.checked os 3 .any (Go.Proofs.Ytfeiaibdnnhlaaa.Rows.fnExactApplyDecisionSpec.pre6 enc Try.prog Try.f3 Go.Proofs.Ytfeiaibdnnhlaaa.Rows.fnExactApplyDecisionRow.domain false) (Go.Proofs.Ytfeiaibdnnhlaaa.Rows.fnExactApplyDecisionSpec.post enc Try.prog Try.f3 false true false false) := by
  refine returnsInHanded_of_change_sized (C := Try.checked) own started (by kernel_rfl) Try.func3
    (ChangeSpec.witness6 (enc := enc) (C := Try.checked) false ⟨#[], #[.agg #[.slice none 0 0, .int .i64 0, .int .i64 0, .int .i64 0, .int .i64 0, .string ByteArray.empty, .int .i64 0, .int .i64 0, .int .i64 0, .int .i64 0], .agg #[.int .i64 0, .int .i64 0, .int .i64 0, .int .i64 0, .string ByteArray.empty, .int .i64 0, .int .i64 0, .int .i64 0]], []⟩ 8 (by kernel_rfl) (by kernel_rfl) (by kernel_rfl) (by kernel_rfl)) ?_
  intro W base args ds gs before hval0 hW hcnd hsz0 _
  have hW' := hW
  obtain ⟨p, q, hA0, hV, rfl, hfz, hnd⟩ := hW
  obtain ⟨rfl, rfl⟩ := trodVars_none hV
  have hpar : Try.f3.params.toList = [26, 28] := by rw [Try.params3]
  have hval : ∀ (j : Nat) t v, [26, 28][j]? = some t → args.toList[j]? = some v → Value.okWide Try.prog W .any base t v := fun j t v a b => hval0 j t v (by rw [Try.params3]; simpa using a) (by simpa using b)
  have hA : DataW.TrodAll enc Try.prog W 0 (fun _ => true) true [26, 28] args.toList ds p := by rw [← hpar]; exact hA0
  have hsz : ∀ y ∈ DataW.weightsEach Try.prog [26, 28] ds, y ≤ reachBytes := by
    have h := hsz0
    rw [hpar] at h
    simp only [List.append_nil, List.all_eq_true, decide_eq_true_eq] at h
    exact h
  obtain ⟨av, h1, h2⟩ := args_read tt_ok tys hval hA hsz
  obtain ⟨mem1, hs⟩ := contract h1
  refine (law_calls h2 hs).mono fun e W' ⟨he, ho, hu, hb⟩ => ?_
  subst he
  have hst := stays_all laidOut hb (ts := [26, 28]) (by
    intro t ht
    simp only [List.mem_cons, List.mem_nil_iff, or_false] at ht
    rcases ht with rfl | rfl
    · exact ⟨by kernel_rfl, of_decide_eq_true (by kernel_rfl)⟩
    · exact ⟨by kernel_rfl, of_decide_eq_true (by kernel_rfl)⟩) hA
  obtain ⟨v0, vs0, d0, ds0, p0, q0, hargs, rfl, rfl, g0, r0⟩ := trodAll_cons hA
  obtain ⟨v1, vs1, d1, ds1, p1, q1, rfl, rfl, rfl, g1, r1⟩ := trodAll_cons r0
  obtain ⟨rfl, rfl, rfl⟩ := trodAll_nil r1
  rw [hargs] at hst
  refine ⟨_, rfl, _, _, _, [], p0 ++ (p1 ++ []), [], hW', trodAll_mk1 (shut_bool Try.underlying4 _), ?_, rfl, kept_of ho hu hb _, fun h => by cases h⟩
  rw [hpar, hargs]
  exact hst

set_option maxRecDepth 100000 in
theorem over : Go.Proofs.Ytfeiaibdnnhlaaa.Rows.fnExactApplyDecisionRow.holds Go.Proofs.Ytfeiaibdnnhlaaa.Try.pinned (OpenSpec.ofChange Go.Proofs.Ytfeiaibdnnhlaaa.Rows.fnExactApplyDecisionSpec) :=
  OpenClaim.holds_of_wide 3 Try.f3 rfl rfl rfl rfl rfl rfl rfl ⟨rfl, rfl, rfl, rfl, rfl⟩ rfl rfl rfl rfl rfl (by kernel_rfl) Try.func3 (by kernel_rfl)
    (of_decide_eq_true (by kernel_rfl)) (by unfold Func.isWrapper; first | (rw [if_pos (by decide +kernel)]; kernel_rfl) | (rw [if_neg (by decide +kernel)]; exact ⟨rfl, rfl⟩))
    (fun os started H enc _ => lifted os started H enc)

end Go.Proofs.Ytfeiaibdnnhlaaa.applyDecision

namespace Go.Proofs.Ytfeiaibdnnhlaaa
/-- The row, under a short name. -/
theorem applyDecision_holds : Go.Proofs.Ytfeiaibdnnhlaaa.Rows.FnExactApplyDecisionSaid := applyDecision.over
#print axioms applyDecision_holds
end Go.Proofs.Ytfeiaibdnnhlaaa
