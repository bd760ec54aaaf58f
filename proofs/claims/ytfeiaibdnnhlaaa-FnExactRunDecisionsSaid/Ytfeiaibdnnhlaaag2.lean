import Derived.Test.Ytfeiaibdnnhlaaag1
/- The laws' own functions: sizes, copies, equality. -/
set_option linter.unusedVariables false
set_option linter.unusedSimpArgs false
namespace Go.Proofs.Ytfeiaibdnnhlaaa

def szRes (n : Int) (c : Nat) : Int := if (c : Int) ≤ n then n - c else -1
theorem szRes_neg {n : Int} {c : Nat} (h : 0 ≤ n) (h' : szRes n c < 0) : n < c := by unfold szRes at h'; split at h' <;> omega
theorem szRes_pos {n : Int} {c : Nat} (h' : ¬ szRes n c < 0) : (c : Int) ≤ n ∧ szRes n c = n - c := by
  unfold szRes at h' ⊢
  split at h'
  · rename_i h; rw [if_pos h]; exact ⟨h, rfl⟩
  · omega
theorem szRes_no {n : Int} {c : Nat} (h : n < c) : szRes n c = -1 := by unfold szRes; rw [if_neg (by omega)]
theorem szRes_yes {n : Int} {c : Nat} (h : (c : Int) ≤ n) : szRes n c = n - c := by unfold szRes; rw [if_pos h]
theorem szRes_le {n : Int} {c : Nat} (h : 0 ≤ n) : szRes n c ≤ n := by unfold szRes; split <;> omega

/- laws.szInterval -/

def laws_szInterval_c {R : Type} (N : Nat) (a : ByteArray) (b : ByteArray) (left : Int) (k : AV → List AB → Option R) : Option R :=
  br (decide ((IntKind.i64.wrap (left - (a.size : Int))) < 0))
  (k (.d (.int .i64 (-1))) [])
  (bnd (IntKind.i64.wrap ((IntKind.i64.wrap (left - (a.size : Int))) - (b.size : Int))) fun i1 =>
   br (decide (i1 < 0))
   (k (.d (.int .i64 (-1))) [])
   (k (.d (.int .i64 i1)) []))

def laws_szInterval_C (N : Nat) : CC := ⟨Γ_impl_IntervalCut, Λ0, Δ0, Μ0⟩

theorem laws_szInterval_C_Γ (N : Nat) : ∀ f s, (laws_szInterval_C N).Γ f = some s → SmrOK Try.prog f s := Γ_impl_IntervalCut_ok

theorem laws_szInterval_C_Λ (N : Nat) : ∀ c, Try.f113.body = some c → ∀ b ∈ loopsIn c, ∀ s, (laws_szInterval_C N).Λ (lid b) = some s → LOK Try.prog Try.f113.ntmps 0 b s :=
  LOKs_ofF (bs := []) (by kernel_rfl) LOKs_n

theorem laws_szInterval_run {R : Type} (N : Nat) (a : ByteArray) (b : ByteArray) (left : Int) (k : AV → List AB → Option R) :
    cfunN tt (laws_szInterval_C N) Try.f113 0 [.agg [.d (.str a), .d (.str b)], .d (.int .i64 left)] [] k = laws_szInterval_c N a b left k := by kernel_rfl

theorem laws_szInterval_ceq {R : Type} (N : Nat) (a : ByteArray) (b : ByteArray) (left : Int) (k : AV → List AB → Option R) (hp1 : (decide (0 ≤ left) && decide (left ≤ 1048576)) = true) (hp2 : (decide (a.size ≤ 140737488355328)) = true) (hp3 : (decide (b.size ≤ 140737488355328)) = true) :
    laws_szInterval_c N a b left k = k (.d (.int .i64 (szRes left (a.size + b.size)))) [] := by
  simp only [decide_eq_true_eq, Bool.and_eq_true] at hp1 hp2 hp3
  simp only [laws_szInterval_c, bnd, wrap_id (n := left - (a.size : Int)) (by omega) (by omega)]
  by_cases h1 : left - (a.size : Int) < 0
  · rw [decide_eq_true h1, br_t, szRes_no (by omega)]
  · rw [decide_eq_false h1, br_f, wrap_id (by omega) (by omega)]
    by_cases h2 : left - (a.size : Int) - (b.size : Int) < 0
    · rw [decide_eq_true h2, br_t, szRes_no (by omega)]
    · rw [decide_eq_false h2, br_f, szRes_yes (by omega)]; congr 3; omega
def laws_szInterval_sm : Smr := ⟨[false, false], fun R args mem k => match nilAVs args, mem with
  | [.agg [.d (.str a), .d (.str b)], .d (.int .i64 left)], [] => chk (decide (0 ≤ left) && decide (left ≤ 1048576)) (chk (decide (a.size ≤ 140737488355328)) (chk (decide (b.size ≤ 140737488355328)) (k (.d (.int .i64 (szRes left (a.size + b.size)))) [])))
  | _, _ => none⟩

theorem laws_szInterval_ok : SmrOK Try.prog 113 laws_szInterval_sm := by
  intro R args mem k r h
  simp only [laws_szInterval_sm] at h
  generalize hA : nilAVs args = args' at h
  split at h
  · rename_i a b left
    obtain ⟨hp1, h1⟩ := chk_eq h
    obtain ⟨hp2, h2⟩ := chk_eq h1
    obtain ⟨hp3, h3⟩ := chk_eq h2
    replace h := h3
    refine ⟨_, _, Spec.nl hA (spec_of_run tt_ok mixed (laws_szInterval_C_Γ 0) Try.func113 (by kernel_rfl) (mem := []) (Nat.le_of_ble_eq_true (by kernel_rfl)) (laws_szInterval_C_Λ 0) ((laws_szInterval_run 0 a b left _).trans ((laws_szInterval_ceq 0 a b left _ hp1 hp2 hp3).trans ?_))), h⟩
    rfl
  · cases h

def Γ_laws_szInterval : FuncId → Option Smr := Γc 113 laws_szInterval_sm Γ_impl_IntervalCut
theorem Γ_laws_szInterval_ok : ∀ f s, Γ_laws_szInterval f = some s → SmrOK Try.prog f s := Γc_ok laws_szInterval_ok Γ_impl_IntervalCut_ok


/- laws.szRoute -/

def laws_szRoute_c {R : Type} (N : Nat) (n : Int) (a : ByteArray) (b : ByteArray) (left : Int) (k : AV → List AB → Option R) : Option R :=
  chk (decide (0 ≤ left) && decide (left ≤ 1048576))
  (chk (decide (a.size ≤ 140737488355328))
   (chk (decide (b.size ≤ 140737488355328))
    (br (decide ((szRes left (a.size + b.size)) < 0))
     (k (.d (.int .i64 (-1))) [])
     (k (.d (.int .i64 (szRes left (a.size + b.size)))) []))))

def laws_szRoute_C (N : Nat) : CC := ⟨Γ_laws_szInterval, Λ0, Δ0, Μ0⟩

theorem laws_szRoute_C_Γ (N : Nat) : ∀ f s, (laws_szRoute_C N).Γ f = some s → SmrOK Try.prog f s := Γ_laws_szInterval_ok

theorem laws_szRoute_C_Λ (N : Nat) : ∀ c, Try.f75.body = some c → ∀ b ∈ loopsIn c, ∀ s, (laws_szRoute_C N).Λ (lid b) = some s → LOK Try.prog Try.f75.ntmps 0 b s :=
  LOKs_ofF (bs := []) (by kernel_rfl) LOKs_n

theorem laws_szRoute_run {R : Type} (N : Nat) (n : Int) (a : ByteArray) (b : ByteArray) (left : Int) (k : AV → List AB → Option R) :
    cfunN tt (laws_szRoute_C N) Try.f75 0 [.agg [.d (.int .i64 n), .d (.str a), .d (.str b)], .d (.int .i64 left)] [] k = laws_szRoute_c N n a b left k := by kernel_rfl

theorem laws_szRoute_ceq {R : Type} (N : Nat) (n : Int) (a : ByteArray) (b : ByteArray) (left : Int) (k : AV → List AB → Option R) (hp1 : (decide (0 ≤ left) && decide (left ≤ 1048576)) = true) (hp2 : (decide (a.size ≤ 140737488355328)) = true) (hp3 : (decide (b.size ≤ 140737488355328)) = true) :
    laws_szRoute_c N n a b left k = k (.d (.int .i64 (szRes left (a.size + b.size)))) [] := by
  simp only [laws_szRoute_c, hp1, hp2, hp3, chk_t]
  simp only [decide_eq_true_eq, Bool.and_eq_true] at hp1
  by_cases h1 : szRes left (a.size + b.size) < 0
  · rw [decide_eq_true h1, br_t, szRes_no (szRes_neg hp1.1 h1)]
  · rw [decide_eq_false h1, br_f]
def laws_szRoute_sm : Smr := ⟨[false, false], fun R args mem k => match nilAVs args, mem with
  | [.agg [.d (.int .i64 n), .d (.str a), .d (.str b)], .d (.int .i64 left)], [] => chk (decide (0 ≤ left) && decide (left ≤ 1048576)) (chk (decide (a.size ≤ 140737488355328)) (chk (decide (b.size ≤ 140737488355328)) (k (.d (.int .i64 (szRes left (a.size + b.size)))) [])))
  | _, _ => none⟩

theorem laws_szRoute_ok : SmrOK Try.prog 75 laws_szRoute_sm := by
  intro R args mem k r h
  simp only [laws_szRoute_sm] at h
  generalize hA : nilAVs args = args' at h
  split at h
  · rename_i n a b left
    obtain ⟨hp1, h1⟩ := chk_eq h
    obtain ⟨hp2, h2⟩ := chk_eq h1
    obtain ⟨hp3, h3⟩ := chk_eq h2
    replace h := h3
    refine ⟨_, _, Spec.nl hA (spec_of_run tt_ok mixed (laws_szRoute_C_Γ 0) Try.func75 (by kernel_rfl) (mem := []) (Nat.le_of_ble_eq_true (by kernel_rfl)) (laws_szRoute_C_Λ 0) ((laws_szRoute_run 0 n a b left _).trans ((laws_szRoute_ceq 0 n a b left _ hp1 hp2 hp3).trans ?_))), h⟩
    rfl
  · cases h

def Γ_laws_szRoute : FuncId → Option Smr := Γc 75 laws_szRoute_sm Γ_laws_szInterval
theorem Γ_laws_szRoute_ok : ∀ f s, Γ_laws_szRoute f = some s → SmrOK Try.prog f s := Γc_ok laws_szRoute_ok Γ_laws_szInterval_ok


/- laws.szPlan -/

def laws_szPlan_c {R : Type} (N : Nat) (pk : Int) (pf : Int) (ps : Int) (pb : ByteArray) (pr : Int) (pt : Int) (pe : Int) (left : Int) (k : AV → List AB → Option R) : Option R :=
  br (decide ((IntKind.i64.wrap (left - (pb.size : Int))) < 0))
  (k (.d (.int .i64 (-1))) [])
  (k (.d (.int .i64 (IntKind.i64.wrap (left - (pb.size : Int))))) [])

def laws_szPlan_C (N : Nat) : CC := ⟨Γ_laws_szRoute, Λ0, Δ0, Μ0⟩

theorem laws_szPlan_C_Γ (N : Nat) : ∀ f s, (laws_szPlan_C N).Γ f = some s → SmrOK Try.prog f s := Γ_laws_szRoute_ok

theorem laws_szPlan_C_Λ (N : Nat) : ∀ c, Try.f32.body = some c → ∀ b ∈ loopsIn c, ∀ s, (laws_szPlan_C N).Λ (lid b) = some s → LOK Try.prog Try.f32.ntmps 0 b s :=
  LOKs_ofF (bs := []) (by kernel_rfl) LOKs_n

theorem laws_szPlan_run {R : Type} (N : Nat) (pk : Int) (pf : Int) (ps : Int) (pb : ByteArray) (pr : Int) (pt : Int) (pe : Int) (left : Int) (k : AV → List AB → Option R) :
    cfunN tt (laws_szPlan_C N) Try.f32 0 [.agg [.d (.int .i64 pk), .d (.int .i64 pf), .d (.int .i64 ps), .d (.str pb), .d (.int .i64 pr), .d (.int .i64 pt), .d (.int .i64 pe)], .d (.int .i64 left)] [] k = laws_szPlan_c N pk pf ps pb pr pt pe left k := by kernel_rfl

theorem laws_szPlan_ceq {R : Type} (N : Nat) (pk : Int) (pf : Int) (ps : Int) (pb : ByteArray) (pr : Int) (pt : Int) (pe : Int) (left : Int) (k : AV → List AB → Option R) (hp1 : (decide (0 ≤ left) && decide (left ≤ 1048576)) = true) (hp2 : (decide (pb.size ≤ 140737488355328)) = true) :
    laws_szPlan_c N pk pf ps pb pr pt pe left k = k (.d (.int .i64 (szRes left pb.size))) [] := by
  simp only [decide_eq_true_eq, Bool.and_eq_true] at hp1 hp2
  simp only [laws_szPlan_c, wrap_id (n := left - (pb.size : Int)) (by omega) (by omega)]
  by_cases h1 : left - (pb.size : Int) < 0
  · rw [decide_eq_true h1, br_t, szRes_no (by omega)]
  · rw [decide_eq_false h1, br_f, szRes_yes (by omega)]
def laws_szPlan_sm : Smr := ⟨[false, false], fun R args mem k => match nilAVs args, mem with
  | [.agg [.d (.int .i64 pk), .d (.int .i64 pf), .d (.int .i64 ps), .d (.str pb), .d (.int .i64 pr), .d (.int .i64 pt), .d (.int .i64 pe)], .d (.int .i64 left)], [] => chk (decide (0 ≤ left) && decide (left ≤ 1048576)) (chk (decide (pb.size ≤ 140737488355328)) (k (.d (.int .i64 (szRes left pb.size))) []))
  | _, _ => none⟩

theorem laws_szPlan_ok : SmrOK Try.prog 32 laws_szPlan_sm := by
  intro R args mem k r h
  simp only [laws_szPlan_sm] at h
  generalize hA : nilAVs args = args' at h
  split at h
  · rename_i pk pf ps pb pr pt pe left
    obtain ⟨hp1, h1⟩ := chk_eq h
    obtain ⟨hp2, h2⟩ := chk_eq h1
    replace h := h2
    refine ⟨_, _, Spec.nl hA (spec_of_run tt_ok mixed (laws_szPlan_C_Γ 0) Try.func32 (by kernel_rfl) (mem := []) (Nat.le_of_ble_eq_true (by kernel_rfl)) (laws_szPlan_C_Λ 0) ((laws_szPlan_run 0 pk pf ps pb pr pt pe left _).trans ((laws_szPlan_ceq 0 pk pf ps pb pr pt pe left _ hp1 hp2).trans ?_))), h⟩
    rfl
  · cases h

def Γ_laws_szPlan : FuncId → Option Smr := Γc 32 laws_szPlan_sm Γ_laws_szRoute
theorem Γ_laws_szPlan_ok : ∀ f s, Γ_laws_szPlan f = some s → SmrOK Try.prog f s := Γc_ok laws_szPlan_ok Γ_laws_szRoute_ok


/- laws.szDecision -/

def laws_szDecision_c {R : Type} (N : Nat) (dk : Int) (pk : Int) (pf : Int) (ps : Int) (pb : ByteArray) (pr : Int) (pt : Int) (pe : Int) (left : Int) (k : AV → List AB → Option R) : Option R :=
  chk (decide (0 ≤ left) && decide (left ≤ 1048576))
  (chk (decide (pb.size ≤ 140737488355328))
   (br (decide ((szRes left pb.size) < 0))
    (k (.d (.int .i64 (-1))) [])
    (k (.d (.int .i64 (szRes left pb.size))) [])))

def laws_szDecision_C (N : Nat) : CC := ⟨Γ_laws_szPlan, Λ0, Δ0, Μ0⟩

theorem laws_szDecision_C_Γ (N : Nat) : ∀ f s, (laws_szDecision_C N).Γ f = some s → SmrOK Try.prog f s := Γ_laws_szPlan_ok

theorem laws_szDecision_C_Λ (N : Nat) : ∀ c, Try.f7.body = some c → ∀ b ∈ loopsIn c, ∀ s, (laws_szDecision_C N).Λ (lid b) = some s → LOK Try.prog Try.f7.ntmps 0 b s :=
  LOKs_ofF (bs := []) (by kernel_rfl) LOKs_n

theorem laws_szDecision_run {R : Type} (N : Nat) (dk : Int) (pk : Int) (pf : Int) (ps : Int) (pb : ByteArray) (pr : Int) (pt : Int) (pe : Int) (left : Int) (k : AV → List AB → Option R) :
    cfunN tt (laws_szDecision_C N) Try.f7 0 [.agg [.d (.int .i64 dk), .d (.int .i64 pk), .d (.int .i64 pf), .d (.int .i64 ps), .d (.str pb), .d (.int .i64 pr), .d (.int .i64 pt), .d (.int .i64 pe)], .d (.int .i64 left)] [] k = laws_szDecision_c N dk pk pf ps pb pr pt pe left k := by kernel_rfl

theorem laws_szDecision_ceq {R : Type} (N : Nat) (dk : Int) (pk : Int) (pf : Int) (ps : Int) (pb : ByteArray) (pr : Int) (pt : Int) (pe : Int) (left : Int) (k : AV → List AB → Option R) (hp1 : (decide (0 ≤ left) && decide (left ≤ 1048576)) = true) (hp2 : (decide (pb.size ≤ 140737488355328)) = true) :
    laws_szDecision_c N dk pk pf ps pb pr pt pe left k = k (.d (.int .i64 (szRes left pb.size))) [] := by
  simp only [laws_szDecision_c, hp1, hp2, chk_t]
  simp only [decide_eq_true_eq, Bool.and_eq_true] at hp1
  by_cases h1 : szRes left pb.size < 0
  · rw [decide_eq_true h1, br_t, szRes_no (szRes_neg hp1.1 h1)]
  · rw [decide_eq_false h1, br_f]
def laws_szDecision_sm : Smr := ⟨[false, false], fun R args mem k => match nilAVs args, mem with
  | [.agg [.d (.int .i64 dk), .d (.int .i64 pk), .d (.int .i64 pf), .d (.int .i64 ps), .d (.str pb), .d (.int .i64 pr), .d (.int .i64 pt), .d (.int .i64 pe)], .d (.int .i64 left)], [] => chk (decide (0 ≤ left) && decide (left ≤ 1048576)) (chk (decide (pb.size ≤ 140737488355328)) (k (.d (.int .i64 (szRes left pb.size))) []))
  | _, _ => none⟩

theorem laws_szDecision_ok : SmrOK Try.prog 7 laws_szDecision_sm := by
  intro R args mem k r h
  simp only [laws_szDecision_sm] at h
  generalize hA : nilAVs args = args' at h
  split at h
  · rename_i dk pk pf ps pb pr pt pe left
    obtain ⟨hp1, h1⟩ := chk_eq h
    obtain ⟨hp2, h2⟩ := chk_eq h1
    replace h := h2
    refine ⟨_, _, Spec.nl hA (spec_of_run tt_ok mixed (laws_szDecision_C_Γ 0) Try.func7 (by kernel_rfl) (mem := []) (Nat.le_of_ble_eq_true (by kernel_rfl)) (laws_szDecision_C_Λ 0) ((laws_szDecision_run 0 dk pk pf ps pb pr pt pe left _).trans ((laws_szDecision_ceq 0 dk pk pf ps pb pr pt pe left _ hp1 hp2).trans ?_))), h⟩
    rfl
  · cases h

def Γ_laws_szDecision : FuncId → Option Smr := Γc 7 laws_szDecision_sm Γ_laws_szPlan
theorem Γ_laws_szDecision_ok : ∀ f s, Γ_laws_szDecision f = some s → SmrOK Try.prog f s := Γc_ok laws_szDecision_ok Γ_laws_szPlan_ok


def cost (r : Route) : Nat := r.low.size + r.high.size
def costs (rs : List Route) : Nat := (rs.map cost).sum
theorem costs_app (a b : List Route) : costs (a ++ b) = costs a + costs b := by unfold costs; rw [List.map_append, List.sum_append]
theorem costs_succ {rs : List Route} {i : Nat} (h : i < rs.length) : costs (rs.take (i + 1)) = costs (rs.take i) + cost rs[i] := by
  rw [List.take_succ_eq_append_getElem h, costs_app]; simp [costs]
theorem costs_le (rs : List Route) (i : Nat) : costs (rs.take i) ≤ costs rs := by
  have h := costs_app (rs.take i) (rs.drop i)
  rw [List.take_append_drop] at h
  omega

/- laws.szRouteS -/

def laws_szRouteS_B5 {R : Type} (N : Nat) (rec : List (List PV) → Int → Int → Option R) (a : List (List PV)) (left : Int) (i : Int) (k1 : Int → Option R) (k2 : Int → Option R) : Option R :=
  br (decide (i < (a.length : Int)))
  (getC a i fun x1 =>
   dInt .i64 x1 fun n3 r2 => dStr r2 fun s5 r4 => dStr r4 fun s7 r6 =>
   chk (Nat.beq x1.length 3)
   (chk (decide (0 ≤ left) && decide (left ≤ 1048576))
    (chk (decide (s5.size ≤ 140737488355328))
     (chk (decide (s7.size ≤ 140737488355328))
      (br (decide ((szRes left (s5.size + s7.size)) < 0))
       (k1 (-1))
       (rec a (szRes left (s5.size + s7.size)) (IntKind.i64.wrap (i + 1))))))))
  (k2 left)

def laws_szRouteS_L5 {R : Type} (N : Nat) (k1 : Int → Option R) (k2 : Int → Option R) : Nat → List (List PV) → Int → Int → Option R
  | 0, _, _, _ => none
  | M + 1, a, left, i => laws_szRouteS_B5 N (laws_szRouteS_L5 N k1 k2 M) a left i k1 k2

def laws_szRouteS_L5_x (e : Ex) : List Nat := (fun e => match e with
    | .normal => []
    | .exit id => match Nat.beq id 0 with | true => [1] | false => []
    | .ret => [4]) e

def laws_szRouteS_C5 (N : Nat) : CC := ⟨Γ_laws_szDecision, Λ0, Δ0, Μ0⟩

theorem laws_szRouteS_C5_Γ (N : Nat) : ∀ f s, (laws_szRouteS_C5 N).Γ f = some s → SmrOK Try.prog f s := Γ_laws_szDecision_ok

theorem laws_szRouteS_C5_Λ (N : Nat) : ∀ b ∈ loopsIn (lpF Try.f31 0), ∀ s, (laws_szRouteS_C5 N).Λ (lid b) = some s → LOK Try.prog 27 0 b s :=
  LOKs_of (bs := []) (by kernel_rfl) LOKs_n

theorem laws_szRouteS_B5_eq {R : Type} (N : Nat) (rec : TL → List AB → Option R) (a : List (List PV)) (left : Int) (i : Int) (k : Ex → TL → List AB → Option R) :
    (crun tt (laws_szRouteS_C5 N) 27 (lpF Try.f31 0)) [(0, .d (.ls a)), (1, .d (.int .i64 left)), (5, .d (.int .i64 i))] [] (lnext 27 0 [] [0, 1, 5] rec (lexit 27 0 laws_szRouteS_L5_x k)) =
    laws_szRouteS_B5 N (fun a left i => rec [(0, .d (.ls a)), (1, .d (.int .i64 left)), (5, .d (.int .i64 i))] []) a left i (fun v => k (.ret) [(4, .d (.int .i64 v))] []) (fun left => k (.exit 0) [(1, .d (.int .i64 left))] []) := by kernel_rfl

theorem laws_szRouteS_L5_eq {R : Type} (N : Nat) (k : Ex → TL → List AB → Option R) : ∀ (M : Nat) (a : List (List PV)) (left : Int) (i : Int), loopG 27 0 [] (crun tt (laws_szRouteS_C5 N) 27 (lpF Try.f31 0)) [0, 1, 5] (lexit 27 0 laws_szRouteS_L5_x k) M [(0, .d (.ls a)), (1, .d (.int .i64 left)), (5, .d (.int .i64 i))] [] =
    laws_szRouteS_L5 N (fun v => k (.ret) [(4, .d (.int .i64 v))] []) (fun left => k (.exit 0) [(1, .d (.int .i64 left))] []) M a left i
  | 0, _, _, _ => rfl
  | M + 1, a, left, i => (laws_szRouteS_B5_eq N (loopG 27 0 [] (crun tt (laws_szRouteS_C5 N) 27 (lpF Try.f31 0)) [0, 1, 5] (lexit 27 0 laws_szRouteS_L5_x k) M) a left i k).trans (congrArg (fun rec => laws_szRouteS_B5 N rec a left i (fun v => k (.ret) [(4, .d (.int .i64 v))] []) (fun left => k (.exit 0) [(1, .d (.int .i64 left))] [])) (funext fun a => (funext fun left => (funext fun i => laws_szRouteS_L5_eq N k M a left i))))

def laws_szRouteS_L5_s (N : Nat) : LSum := fun R l m k => gcf 27 0 [] [0, 1, 5] l m fun l2 m2 => match l2, m2 with
  | [(z1, .d (.ls a)), (z2, .d (.int .i64 left)), (z3, .d (.int .i64 i))], [] => chk (Nat.beq z1 0 && Nat.beq z2 1 && Nat.beq z3 5) (laws_szRouteS_L5 N (fun v => k (.ret) [(4, .d (.int .i64 v))] []) (fun left => k (.exit 0) [(1, .d (.int .i64 left))] []) N a left i)
  | _, _ => none

theorem laws_szRouteS_L5_ok (N : Nat) : LOK Try.prog 27 0 (lpF Try.f31 0) (laws_szRouteS_L5_s N) := by
  refine (lsum_ok tt_ok mixed (laws_szRouteS_C5_Γ N) (laws_szRouteS_C5_Λ N) [] [0, 1, 5] laws_szRouteS_L5_x N).of ?_
  intro R l m k r h
  unfold laws_szRouteS_L5_s at h
  refine gcf_mono ?_ h
  intro l2 m2 h
  split at h
  · obtain ⟨hc, h⟩ := chk_eq h
    simp only [Bool.and_eq_true, Nat.beq_eq_true_eq] at hc
    obtain ⟨⟨rfl, rfl⟩, rfl⟩ := hc
    rw [laws_szRouteS_L5_eq]
    exact h
  · cases h

def laws_szRouteS_c {R : Type} (N : Nat) (xs : List (List PV)) (left : Int) (k : AV → List AB → Option R) : Option R :=
  br (decide ((IntKind.i64.wrap (left - (xs.length : Int))) < 0))
  (k (.d (.int .i64 (-1))) [])
  (laws_szRouteS_L5 N (fun v =>
    k (.d (.int .i64 v)) [])
   (fun left =>
    k (.d (.int .i64 left)) []) N xs (IntKind.i64.wrap (left - (xs.length : Int))) 0)

def laws_szRouteS_C (N : Nat) : CC := ⟨Γ_laws_szDecision, (Λc 5 (laws_szRouteS_L5_s N) Λ0), Δ0, Μ0⟩

theorem laws_szRouteS_C_Γ (N : Nat) : ∀ f s, (laws_szRouteS_C N).Γ f = some s → SmrOK Try.prog f s := Γ_laws_szDecision_ok

theorem laws_szRouteS_C_Λ (N : Nat) : ∀ c, Try.f31.body = some c → ∀ b ∈ loopsIn c, ∀ s, (laws_szRouteS_C N).Λ (lid b) = some s → LOK Try.prog Try.f31.ntmps 0 b s :=
  LOKs_ofF (bs := [(lpF Try.f31 0)]) (by kernel_rfl) (LOKs_c (l := laws_szRouteS_L5_s N) (by kernel_rfl) (laws_szRouteS_L5_ok N) LOKs_n)

theorem laws_szRouteS_run {R : Type} (N : Nat) (xs : List (List PV)) (left : Int) (k : AV → List AB → Option R) :
    cfunN tt (laws_szRouteS_C N) Try.f31 0 [.d (.ls xs), .d (.int .i64 left)] [] k = laws_szRouteS_c N xs left k := by kernel_rfl

theorem szRouteS_loop {R : Type} (N : Nat) (rs : List Route) (hl : rs.length ≤ 140737488355328) (hs : ∀ r ∈ rs, r.low.size ≤ 140737488355328 ∧ r.high.size ≤ 140737488355328) (k1 k2 : Int → Option R) : ∀ (M i : Nat) (left : Int), i ≤ rs.length → rs.length < i + M → 0 ≤ left → left ≤ 1048576 →
    laws_szRouteS_L5 N k1 k2 M (rs.map Route.pv) left (i : Int) = if (costs (rs.drop i) : Int) ≤ left then k2 (left - costs (rs.drop i)) else k1 (-1)
  | 0, i, left, h1, h2, _, _ => by omega
  | M + 1, i, left, h1, h2, h3, h4 => by
    simp only [laws_szRouteS_L5, laws_szRouteS_B5, List.length_map]
    by_cases h : i < rs.length
    · have hd : costs (rs.drop i) = cost rs[i] + costs (rs.drop (i + 1)) := by rw [List.drop_eq_getElem_cons h]; simp only [costs, List.map_cons, List.sum_cons]
      have hr := hs rs[i] (List.getElem_mem _)
      rw [lt_t h, br_t, getC_map h]
      simp only [Route.pv, dInt_c, dStr_c, List.length_cons, List.length_nil, Nat.zero_add, Nat.reduceAdd, chk_beq, chk_t, br_t, br_f, bi_s, unRoutes_map, unIvs_map, h3, h4, hr.1, hr.2, decide_true, Bool.and_self]
      by_cases h5 : szRes left (rs[i].low.size + rs[i].high.size) < 0
      · have := szRes_neg h3 h5
        rw [decide_eq_true h5, br_t, if_neg (by unfold cost at hd; omega)]
      · obtain ⟨h6, h7⟩ := szRes_pos h5
        rw [decide_eq_false h5, br_f, wrap_s (by omega), szRouteS_loop N rs hl hs k1 k2 M (i + 1) _ (by omega) (by omega) (by omega) (by omega), h7]
        unfold cost at hd
        by_cases h8 : (costs (rs.drop i) : Int) ≤ left
        · rw [if_pos h8, if_pos (by omega)]; congr 1; omega
        · rw [if_neg h8, if_neg (by omega)]
    · have : rs.drop i = [] := List.drop_of_length_le (by omega)
      rw [lt_f h, br_f, this, if_pos (by simpa [costs] using h3)]
      simp [costs]
theorem laws_szRouteS_ceq {R : Type} (N : Nat) (left : Int) (rs : List Route) (k : AV → List AB → Option R) (hN : rs.length + 1 ≤ N) (hp1 : (decide (0 ≤ left) && decide (left ≤ 1048576)) = true) (hp2 : (decide (rs.length ≤ 140737488355328)) = true) (hp3 : (rs.all (fun r => decide (r.low.size ≤ 140737488355328) && decide (r.high.size ≤ 140737488355328))) = true) :
    laws_szRouteS_c N (rs.map Route.pv) left k = k (.d (.int .i64 (szRes left (rs.length + costs rs)))) [] := by
  simp only [decide_eq_true_eq, Bool.and_eq_true, List.all_eq_true] at hp1 hp2 hp3
  simp only [laws_szRouteS_c, List.length_map, wrap_id (n := left - (rs.length : Int)) (by omega) (by omega)]
  by_cases h1 : left - (rs.length : Int) < 0
  · rw [decide_eq_true h1, br_t, szRes_no (by omega)]
  · rw [decide_eq_false h1, br_f]
    have := szRouteS_loop N rs hp2 hp3 (fun v => k (.d (.int .i64 v)) []) (fun v => k (.d (.int .i64 v)) []) N 0 (left - rs.length) (by omega) (by omega) (by omega) (by omega)
    refine this.trans ?_
    simp only [List.drop_zero]
    by_cases h2 : (costs rs : Int) ≤ left - rs.length
    · rw [if_pos h2, szRes_yes (by omega)]; congr 3; omega
    · rw [if_neg h2, szRes_no (by omega)]
def laws_szRouteS_sm : Smr := ⟨[false, false], fun R args mem k => match nilAVs args, mem with
  | [.d (.ls xs), .d (.int .i64 left)], [] => bi (unRoutes xs) fun rs => chk (decide (0 ≤ left) && decide (left ≤ 1048576)) (chk (decide (rs.length ≤ 140737488355328)) (chk (rs.all (fun r => decide (r.low.size ≤ 140737488355328) && decide (r.high.size ≤ 140737488355328))) (k (.d (.int .i64 (szRes left (rs.length + costs rs)))) [])))
  | _, _ => none⟩

theorem laws_szRouteS_ok : SmrOK Try.prog 31 laws_szRouteS_sm := by
  intro R args mem k r h
  simp only [laws_szRouteS_sm] at h
  generalize hA : nilAVs args = args' at h
  split at h
  · rename_i xs left
    obtain ⟨rs, hd0, h1⟩ := bi_eq h
    have hd0 := unRoutes_eq hd0
    subst hd0
    obtain ⟨hp1, h2⟩ := chk_eq h1
    obtain ⟨hp2, h3⟩ := chk_eq h2
    obtain ⟨hp3, h4⟩ := chk_eq h3
    replace h := h4
    refine ⟨_, _, Spec.nl hA (spec_of_run tt_ok mixed (laws_szRouteS_C_Γ (rs.length + 1)) Try.func31 (by kernel_rfl) (mem := []) (Nat.le_of_ble_eq_true (by kernel_rfl)) (laws_szRouteS_C_Λ (rs.length + 1)) ((laws_szRouteS_run (rs.length + 1) (rs.map Route.pv) left _).trans ((laws_szRouteS_ceq (rs.length + 1) left rs _ (Nat.le_refl _) hp1 hp2 hp3).trans ?_))), h⟩
    rfl
  · cases h

def Γ_laws_szRouteS : FuncId → Option Smr := Γc 31 laws_szRouteS_sm Γ_laws_szDecision
theorem Γ_laws_szRouteS_ok : ∀ f s, Γ_laws_szRouteS f = some s → SmrOK Try.prog f s := Γc_ok laws_szRouteS_ok Γ_laws_szDecision_ok


/- laws.szMaster -/

def laws_szMaster_c {R : Type} (N : Nat) (xs : List (List PV)) (sh : Int) (pk : Int) (pf : Int) (ps : Int) (pb : ByteArray) (pr : Int) (pt : Int) (pe : Int) (tn : Int) (left : Int) (k : AV → List AB → Option R) : Option R :=
  bi (unRoutes xs) fun rs1 =>
  chk (decide (0 ≤ left) && decide (left ≤ 1048576))
  (chk (decide (rs1.length ≤ 140737488355328))
   (chk (rs1.all (fun r => decide (r.low.size ≤ 140737488355328) && decide (r.high.size ≤ 140737488355328)))
    (br (decide ((szRes left (rs1.length + costs rs1)) < 0))
     (k (.d (.int .i64 (-1))) [])
     (chk (decide (0 ≤ (szRes left (rs1.length + costs rs1))) && decide ((szRes left (rs1.length + costs rs1)) ≤ 1048576))
      (chk (decide (pb.size ≤ 140737488355328))
       (br (decide ((szRes (szRes left (rs1.length + costs rs1)) pb.size) < 0))
        (k (.d (.int .i64 (-1))) [])
        (k (.d (.int .i64 (szRes (szRes left (rs1.length + costs rs1)) pb.size))) [])))))))

def laws_szMaster_C (N : Nat) : CC := ⟨Γ_laws_szRouteS, Λ0, Δ0, Μ0⟩

theorem laws_szMaster_C_Γ (N : Nat) : ∀ f s, (laws_szMaster_C N).Γ f = some s → SmrOK Try.prog f s := Γ_laws_szRouteS_ok

theorem laws_szMaster_C_Λ (N : Nat) : ∀ c, Try.f6.body = some c → ∀ b ∈ loopsIn c, ∀ s, (laws_szMaster_C N).Λ (lid b) = some s → LOK Try.prog Try.f6.ntmps 0 b s :=
  LOKs_ofF (bs := []) (by kernel_rfl) LOKs_n

theorem laws_szMaster_run {R : Type} (N : Nat) (xs : List (List PV)) (sh : Int) (pk : Int) (pf : Int) (ps : Int) (pb : ByteArray) (pr : Int) (pt : Int) (pe : Int) (tn : Int) (left : Int) (k : AV → List AB → Option R) :
    cfunN tt (laws_szMaster_C N) Try.f6 0 [.agg [.d (.ls xs), .d (.int .i64 sh), .d (.int .i64 pk), .d (.int .i64 pf), .d (.int .i64 ps), .d (.str pb), .d (.int .i64 pr), .d (.int .i64 pt), .d (.int .i64 pe), .d (.int .i64 tn)], .d (.int .i64 left)] [] k = laws_szMaster_c N xs sh pk pf ps pb pr pt pe tn left k := by kernel_rfl

theorem laws_szMaster_ceq {R : Type} (N : Nat) (sh : Int) (pk : Int) (pf : Int) (ps : Int) (pb : ByteArray) (pr : Int) (pt : Int) (pe : Int) (tn : Int) (left : Int) (rs : List Route) (k : AV → List AB → Option R) (hp1 : (decide (0 ≤ left) && decide (left ≤ 1048576)) = true) (hp2 : (decide (rs.length ≤ 140737488355328)) = true) (hp3 : (rs.all (fun r => decide (r.low.size ≤ 140737488355328) && decide (r.high.size ≤ 140737488355328))) = true) (hp4 : (decide (pb.size ≤ 140737488355328)) = true) :
    laws_szMaster_c N (rs.map Route.pv) sh pk pf ps pb pr pt pe tn left k = k (.d (.int .i64 (szRes left (rs.length + costs rs + pb.size)))) [] := by
  simp only [laws_szMaster_c, Route.pv, dInt_c, dStr_c, List.length_cons, List.length_nil, Nat.zero_add, Nat.reduceAdd, chk_beq, chk_t, br_t, br_f, bi_s, unRoutes_map, unIvs_map, hp1, hp2, hp3, hp4]
  simp only [decide_eq_true_eq, Bool.and_eq_true] at hp1 hp4
  by_cases h1 : szRes left (rs.length + costs rs) < 0
  · rw [decide_eq_true h1, br_t, szRes_no (by have := szRes_neg hp1.1 h1; omega)]
  · obtain ⟨h2, h3⟩ := szRes_pos h1
    rw [decide_eq_false h1, br_f, decide_eq_true (show 0 ≤ szRes left (rs.length + costs rs) by omega), decide_eq_true (show szRes left (rs.length + costs rs) ≤ 1048576 by omega)]
    simp only [Bool.and_self, chk_t]
    by_cases h4 : szRes (szRes left (rs.length + costs rs)) pb.size < 0
    · have := szRes_neg (by omega) h4
      rw [decide_eq_true h4, br_t, szRes_no (by omega)]
    · obtain ⟨h5, h6⟩ := szRes_pos h4
      rw [decide_eq_false h4, br_f, h6, szRes_yes (n := left) (c := rs.length + costs rs + pb.size) (by omega), h3]; congr 3; omega
def laws_szMaster_sm : Smr := ⟨[false, false], fun R args mem k => match nilAVs args, mem with
  | [.agg [.d (.ls xs), .d (.int .i64 sh), .d (.int .i64 pk), .d (.int .i64 pf), .d (.int .i64 ps), .d (.str pb), .d (.int .i64 pr), .d (.int .i64 pt), .d (.int .i64 pe), .d (.int .i64 tn)], .d (.int .i64 left)], [] => bi (unRoutes xs) fun rs => chk (decide (0 ≤ left) && decide (left ≤ 1048576)) (chk (decide (rs.length ≤ 140737488355328)) (chk (rs.all (fun r => decide (r.low.size ≤ 140737488355328) && decide (r.high.size ≤ 140737488355328))) (chk (decide (pb.size ≤ 140737488355328)) (k (.d (.int .i64 (szRes left (rs.length + costs rs + pb.size)))) []))))
  | _, _ => none⟩

theorem laws_szMaster_ok : SmrOK Try.prog 6 laws_szMaster_sm := by
  intro R args mem k r h
  simp only [laws_szMaster_sm] at h
  generalize hA : nilAVs args = args' at h
  split at h
  · rename_i xs sh pk pf ps pb pr pt pe tn left
    obtain ⟨rs, hd0, h1⟩ := bi_eq h
    have hd0 := unRoutes_eq hd0
    subst hd0
    obtain ⟨hp1, h2⟩ := chk_eq h1
    obtain ⟨hp2, h3⟩ := chk_eq h2
    obtain ⟨hp3, h4⟩ := chk_eq h3
    obtain ⟨hp4, h5⟩ := chk_eq h4
    replace h := h5
    refine ⟨_, _, Spec.nl hA (spec_of_run tt_ok mixed (laws_szMaster_C_Γ 0) Try.func6 (by kernel_rfl) (mem := []) (Nat.le_of_ble_eq_true (by kernel_rfl)) (laws_szMaster_C_Λ 0) ((laws_szMaster_run 0 (rs.map Route.pv) sh pk pf ps pb pr pt pe tn left _).trans ((laws_szMaster_ceq 0 sh pk pf ps pb pr pt pe tn left rs _ hp1 hp2 hp3 hp4).trans ?_))), h⟩
    rfl
  · cases h

def Γ_laws_szMaster : FuncId → Option Smr := Γc 6 laws_szMaster_sm Γ_laws_szRouteS
theorem Γ_laws_szMaster_ok : ∀ f s, Γ_laws_szMaster f = some s → SmrOK Try.prog f s := Γc_ok laws_szMaster_ok Γ_laws_szRouteS_ok


/- laws.toInterval -/

def laws_toInterval_c {R : Type} (N : Nat) (a : ByteArray) (b : ByteArray) (k : AV → List AB → Option R) : Option R :=
  k (.agg [.d (.str a), .d (.str b)]) []

def laws_toInterval_C (N : Nat) : CC := ⟨Γ_laws_szMaster, Λ0, Δ0, Μ0⟩

theorem laws_toInterval_C_Γ (N : Nat) : ∀ f s, (laws_toInterval_C N).Γ f = some s → SmrOK Try.prog f s := Γ_laws_szMaster_ok

theorem laws_toInterval_C_Λ (N : Nat) : ∀ c, Try.f115.body = some c → ∀ b ∈ loopsIn c, ∀ s, (laws_toInterval_C N).Λ (lid b) = some s → LOK Try.prog Try.f115.ntmps 0 b s :=
  LOKs_ofF (bs := []) (by kernel_rfl) LOKs_n

theorem laws_toInterval_run {R : Type} (N : Nat) (a : ByteArray) (b : ByteArray) (k : AV → List AB → Option R) :
    cfunN tt (laws_toInterval_C N) Try.f115 0 [.agg [.d (.str a), .d (.str b)]] [] k = laws_toInterval_c N a b k := by kernel_rfl

theorem laws_toInterval_ceq {R : Type} (N : Nat) (a : ByteArray) (b : ByteArray) (k : AV → List AB → Option R) :
    laws_toInterval_c N a b k = k (.agg [.d (.str a), .d (.str b)]) [] := by
  rfl
def laws_toInterval_sm : Smr := ⟨[false], fun R args mem k => match nilAVs args, mem with
  | [.agg [.d (.str a), .d (.str b)]], [] => k (.agg [.d (.str a), .d (.str b)]) []
  | _, _ => none⟩

theorem laws_toInterval_ok : SmrOK Try.prog 115 laws_toInterval_sm := by
  intro R args mem k r h
  simp only [laws_toInterval_sm] at h
  generalize hA : nilAVs args = args' at h
  split at h
  · rename_i a b
    refine ⟨_, _, Spec.nl hA (spec_of_run tt_ok mixed (laws_toInterval_C_Γ 0) Try.func115 (by kernel_rfl) (mem := []) (Nat.le_of_ble_eq_true (by kernel_rfl)) (laws_toInterval_C_Λ 0) ((laws_toInterval_run 0 a b _).trans ((laws_toInterval_ceq 0 a b _).trans ?_))), h⟩
    rfl
  · cases h

def Γ_laws_toInterval : FuncId → Option Smr := Γc 115 laws_toInterval_sm Γ_laws_szMaster
theorem Γ_laws_toInterval_ok : ∀ f s, Γ_laws_toInterval f = some s → SmrOK Try.prog f s := Γc_ok laws_toInterval_ok Γ_laws_szMaster_ok

/- laws.toRoute -/

def laws_toRoute_c {R : Type} (N : Nat) (n : Int) (a : ByteArray) (b : ByteArray) (k : AV → List AB → Option R) : Option R :=
  k (.agg [.d (.int .i64 n), .d (.str a), .d (.str b)]) []

def laws_toRoute_C (N : Nat) : CC := ⟨Γ_laws_toInterval, Λ0, Δ0, Μ0⟩

theorem laws_toRoute_C_Γ (N : Nat) : ∀ f s, (laws_toRoute_C N).Γ f = some s → SmrOK Try.prog f s := Γ_laws_toInterval_ok

theorem laws_toRoute_C_Λ (N : Nat) : ∀ c, Try.f81.body = some c → ∀ b ∈ loopsIn c, ∀ s, (laws_toRoute_C N).Λ (lid b) = some s → LOK Try.prog Try.f81.ntmps 0 b s :=
  LOKs_ofF (bs := []) (by kernel_rfl) LOKs_n

theorem laws_toRoute_run {R : Type} (N : Nat) (n : Int) (a : ByteArray) (b : ByteArray) (k : AV → List AB → Option R) :
    cfunN tt (laws_toRoute_C N) Try.f81 0 [.agg [.d (.int .i64 n), .d (.str a), .d (.str b)]] [] k = laws_toRoute_c N n a b k := by kernel_rfl

theorem laws_toRoute_ceq {R : Type} (N : Nat) (n : Int) (a : ByteArray) (b : ByteArray) (k : AV → List AB → Option R) :
    laws_toRoute_c N n a b k = k (.agg [.d (.int .i64 n), .d (.str a), .d (.str b)]) [] := by
  rfl
def laws_toRoute_sm : Smr := ⟨[false], fun R args mem k => match nilAVs args, mem with
  | [.agg [.d (.int .i64 n), .d (.str a), .d (.str b)]], [] => k (.agg [.d (.int .i64 n), .d (.str a), .d (.str b)]) []
  | _, _ => none⟩

theorem laws_toRoute_ok : SmrOK Try.prog 81 laws_toRoute_sm := by
  intro R args mem k r h
  simp only [laws_toRoute_sm] at h
  generalize hA : nilAVs args = args' at h
  split at h
  · rename_i n a b
    refine ⟨_, _, Spec.nl hA (spec_of_run tt_ok mixed (laws_toRoute_C_Γ 0) Try.func81 (by kernel_rfl) (mem := []) (Nat.le_of_ble_eq_true (by kernel_rfl)) (laws_toRoute_C_Λ 0) ((laws_toRoute_run 0 n a b _).trans ((laws_toRoute_ceq 0 n a b _).trans ?_))), h⟩
    rfl
  · cases h

def Γ_laws_toRoute : FuncId → Option Smr := Γc 81 laws_toRoute_sm Γ_laws_toInterval
theorem Γ_laws_toRoute_ok : ∀ f s, Γ_laws_toRoute f = some s → SmrOK Try.prog f s := Γc_ok laws_toRoute_ok Γ_laws_toInterval_ok

/- laws.toPlan -/

def laws_toPlan_c {R : Type} (N : Nat) (pk : Int) (pf : Int) (ps : Int) (pb : ByteArray) (pr : Int) (pt : Int) (pe : Int) (k : AV → List AB → Option R) : Option R :=
  k (.agg [.d (.int .i64 pk), .d (.int .i64 pf), .d (.int .i64 ps), .d (.str pb), .d (.int .i64 pr), .d (.int .i64 pt), .d (.int .i64 pe)]) []

def laws_toPlan_C (N : Nat) : CC := ⟨Γ_laws_toRoute, Λ0, Δ0, Μ0⟩

theorem laws_toPlan_C_Γ (N : Nat) : ∀ f s, (laws_toPlan_C N).Γ f = some s → SmrOK Try.prog f s := Γ_laws_toRoute_ok

theorem laws_toPlan_C_Λ (N : Nat) : ∀ c, Try.f40.body = some c → ∀ b ∈ loopsIn c, ∀ s, (laws_toPlan_C N).Λ (lid b) = some s → LOK Try.prog Try.f40.ntmps 0 b s :=
  LOKs_ofF (bs := []) (by kernel_rfl) LOKs_n

theorem laws_toPlan_run {R : Type} (N : Nat) (pk : Int) (pf : Int) (ps : Int) (pb : ByteArray) (pr : Int) (pt : Int) (pe : Int) (k : AV → List AB → Option R) :
    cfunN tt (laws_toPlan_C N) Try.f40 0 [.agg [.d (.int .i64 pk), .d (.int .i64 pf), .d (.int .i64 ps), .d (.str pb), .d (.int .i64 pr), .d (.int .i64 pt), .d (.int .i64 pe)]] [] k = laws_toPlan_c N pk pf ps pb pr pt pe k := by kernel_rfl

theorem laws_toPlan_ceq {R : Type} (N : Nat) (pk : Int) (pf : Int) (ps : Int) (pb : ByteArray) (pr : Int) (pt : Int) (pe : Int) (k : AV → List AB → Option R) :
    laws_toPlan_c N pk pf ps pb pr pt pe k = k (.agg [.d (.int .i64 pk), .d (.int .i64 pf), .d (.int .i64 ps), .d (.str pb), .d (.int .i64 pr), .d (.int .i64 pt), .d (.int .i64 pe)]) [] := by
  rfl
def laws_toPlan_sm : Smr := ⟨[false], fun R args mem k => match nilAVs args, mem with
  | [.agg [.d (.int .i64 pk), .d (.int .i64 pf), .d (.int .i64 ps), .d (.str pb), .d (.int .i64 pr), .d (.int .i64 pt), .d (.int .i64 pe)]], [] => k (.agg [.d (.int .i64 pk), .d (.int .i64 pf), .d (.int .i64 ps), .d (.str pb), .d (.int .i64 pr), .d (.int .i64 pt), .d (.int .i64 pe)]) []
  | _, _ => none⟩

theorem laws_toPlan_ok : SmrOK Try.prog 40 laws_toPlan_sm := by
  intro R args mem k r h
  simp only [laws_toPlan_sm] at h
  generalize hA : nilAVs args = args' at h
  split at h
  · rename_i pk pf ps pb pr pt pe
    refine ⟨_, _, Spec.nl hA (spec_of_run tt_ok mixed (laws_toPlan_C_Γ 0) Try.func40 (by kernel_rfl) (mem := []) (Nat.le_of_ble_eq_true (by kernel_rfl)) (laws_toPlan_C_Λ 0) ((laws_toPlan_run 0 pk pf ps pb pr pt pe _).trans ((laws_toPlan_ceq 0 pk pf ps pb pr pt pe _).trans ?_))), h⟩
    rfl
  · cases h

def Γ_laws_toPlan : FuncId → Option Smr := Γc 40 laws_toPlan_sm Γ_laws_toRoute
theorem Γ_laws_toPlan_ok : ∀ f s, Γ_laws_toPlan f = some s → SmrOK Try.prog f s := Γc_ok laws_toPlan_ok Γ_laws_toRoute_ok

/- laws.toDecision -/

def laws_toDecision_c {R : Type} (N : Nat) (dk : Int) (pk : Int) (pf : Int) (ps : Int) (pb : ByteArray) (pr : Int) (pt : Int) (pe : Int) (k : AV → List AB → Option R) : Option R :=
  k (.agg [.d (.int .i64 dk), .d (.int .i64 pk), .d (.int .i64 pf), .d (.int .i64 ps), .d (.str pb), .d (.int .i64 pr), .d (.int .i64 pt), .d (.int .i64 pe)]) []

def laws_toDecision_C (N : Nat) : CC := ⟨Γ_laws_toPlan, Λ0, Δ0, Μ0⟩

theorem laws_toDecision_C_Γ (N : Nat) : ∀ f s, (laws_toDecision_C N).Γ f = some s → SmrOK Try.prog f s := Γ_laws_toPlan_ok

theorem laws_toDecision_C_Λ (N : Nat) : ∀ c, Try.f10.body = some c → ∀ b ∈ loopsIn c, ∀ s, (laws_toDecision_C N).Λ (lid b) = some s → LOK Try.prog Try.f10.ntmps 0 b s :=
  LOKs_ofF (bs := []) (by kernel_rfl) LOKs_n

theorem laws_toDecision_run {R : Type} (N : Nat) (dk : Int) (pk : Int) (pf : Int) (ps : Int) (pb : ByteArray) (pr : Int) (pt : Int) (pe : Int) (k : AV → List AB → Option R) :
    cfunN tt (laws_toDecision_C N) Try.f10 0 [.agg [.d (.int .i64 dk), .d (.int .i64 pk), .d (.int .i64 pf), .d (.int .i64 ps), .d (.str pb), .d (.int .i64 pr), .d (.int .i64 pt), .d (.int .i64 pe)]] [] k = laws_toDecision_c N dk pk pf ps pb pr pt pe k := by kernel_rfl

theorem laws_toDecision_ceq {R : Type} (N : Nat) (dk : Int) (pk : Int) (pf : Int) (ps : Int) (pb : ByteArray) (pr : Int) (pt : Int) (pe : Int) (k : AV → List AB → Option R) :
    laws_toDecision_c N dk pk pf ps pb pr pt pe k = k (.agg [.d (.int .i64 dk), .d (.int .i64 pk), .d (.int .i64 pf), .d (.int .i64 ps), .d (.str pb), .d (.int .i64 pr), .d (.int .i64 pt), .d (.int .i64 pe)]) [] := by
  rfl
def laws_toDecision_sm : Smr := ⟨[false], fun R args mem k => match nilAVs args, mem with
  | [.agg [.d (.int .i64 dk), .d (.int .i64 pk), .d (.int .i64 pf), .d (.int .i64 ps), .d (.str pb), .d (.int .i64 pr), .d (.int .i64 pt), .d (.int .i64 pe)]], [] => k (.agg [.d (.int .i64 dk), .d (.int .i64 pk), .d (.int .i64 pf), .d (.int .i64 ps), .d (.str pb), .d (.int .i64 pr), .d (.int .i64 pt), .d (.int .i64 pe)]) []
  | _, _ => none⟩

theorem laws_toDecision_ok : SmrOK Try.prog 10 laws_toDecision_sm := by
  intro R args mem k r h
  simp only [laws_toDecision_sm] at h
  generalize hA : nilAVs args = args' at h
  split at h
  · rename_i dk pk pf ps pb pr pt pe
    refine ⟨_, _, Spec.nl hA (spec_of_run tt_ok mixed (laws_toDecision_C_Γ 0) Try.func10 (by kernel_rfl) (mem := []) (Nat.le_of_ble_eq_true (by kernel_rfl)) (laws_toDecision_C_Λ 0) ((laws_toDecision_run 0 dk pk pf ps pb pr pt pe _).trans ((laws_toDecision_ceq 0 dk pk pf ps pb pr pt pe _).trans ?_))), h⟩
    rfl
  · cases h

def Γ_laws_toDecision : FuncId → Option Smr := Γc 10 laws_toDecision_sm Γ_laws_toPlan
theorem Γ_laws_toDecision_ok : ∀ f s, Γ_laws_toDecision f = some s → SmrOK Try.prog f s := Γc_ok laws_toDecision_ok Γ_laws_toPlan_ok


theorem toRoute_set {r : Route} (x : Route) : (((x.pv.set 0 (.int .i64 r.number)).set 1 (.str r.low)).set 2 (.str r.high)) = r.pv := rfl
def zRoute : Route := ⟨0, ⟨#[]⟩, ⟨#[]⟩⟩
/- laws.toRouteS -/

def laws_toRouteS_B3 {R : Type} (N : Nat) (rec : List (List PV) → Int → List (List PV) → Option R) (a : List (List PV)) (i : Int) (c0 : List (List PV)) (k1 : List (List PV) → Option R) : Option R :=
  br (decide (i < (a.length : Int)))
  (getC a i fun x1 =>
   dInt .i64 x1 fun n3 r2 => dStr r2 fun s5 r4 => dStr r4 fun s7 r6 =>
   chk (Nat.beq x1.length 3)
   (chk (decide (0 ≤ i) && decide (i < (c0.length : Int)))
    (getN c0 i.toNat fun x8 =>
     chk (decide (3 ≤ x8.length))
     (bnd (((c0.set i.toNat (x8.set 0 (.int .i64 n3))).set i.toNat ((x8.set 0 (.int .i64 n3)).set 1 (.str s5))).set i.toNat (((x8.set 0 (.int .i64 n3)).set 1 (.str s5)).set 2 (.str s7))) fun y9 =>
      rec a (IntKind.i64.wrap (i + 1)) y9))))
  (k1 c0)

def laws_toRouteS_L3 {R : Type} (N : Nat) (k1 : List (List PV) → Option R) : Nat → List (List PV) → Int → List (List PV) → Option R
  | 0, _, _, _ => none
  | M + 1, a, i, c0 => laws_toRouteS_B3 N (laws_toRouteS_L3 N k1 M) a i c0 k1

def laws_toRouteS_L3_x (e : Ex) : List Nat := (fun e => match e with
    | .normal => []
    | .exit id => match Nat.beq id 0 with | true => [3] | false => []
    | .ret => []) e

def laws_toRouteS_C3 (N : Nat) : CC := ⟨Γ_laws_toDecision, Λ0, Δ0, Μ0⟩

theorem laws_toRouteS_C3_Γ (N : Nat) : ∀ f s, (laws_toRouteS_C3 N).Γ f = some s → SmrOK Try.prog f s := Γ_laws_toDecision_ok

theorem laws_toRouteS_C3_Λ (N : Nat) : ∀ b ∈ loopsIn (lpF Try.f39 0), ∀ s, (laws_toRouteS_C3 N).Λ (lid b) = some s → LOK Try.prog 23 0 b s :=
  LOKs_of (bs := []) (by kernel_rfl) LOKs_n

theorem laws_toRouteS_B3_eq {R : Type} (N : Nat) (rec : TL → List AB → Option R) (a : List (List PV)) (i : Int) (c0 : List (List PV)) (k : Ex → TL → List AB → Option R) :
    (crun tt (laws_toRouteS_C3 N) 23 (lpF Try.f39 0)) [(0, .d (.ls a)), (3, .sl 0), (4, .d (.int .i64 i))] [.ar 3 0 c0] (lnext 23 0 [] [0, 3, 4] rec (lexit 23 0 laws_toRouteS_L3_x k)) =
    laws_toRouteS_B3 N (fun a i c0 => rec [(0, .d (.ls a)), (3, .sl 0), (4, .d (.int .i64 i))] [.ar 3 0 c0]) a i c0 (fun c0 => k (.exit 0) [(3, .sl 0)] [.ar 3 0 c0]) := by kernel_rfl

theorem laws_toRouteS_L3_eq {R : Type} (N : Nat) (k : Ex → TL → List AB → Option R) : ∀ (M : Nat) (a : List (List PV)) (i : Int) (c0 : List (List PV)), loopG 23 0 [] (crun tt (laws_toRouteS_C3 N) 23 (lpF Try.f39 0)) [0, 3, 4] (lexit 23 0 laws_toRouteS_L3_x k) M [(0, .d (.ls a)), (3, .sl 0), (4, .d (.int .i64 i))] [.ar 3 0 c0] =
    laws_toRouteS_L3 N (fun c0 => k (.exit 0) [(3, .sl 0)] [.ar 3 0 c0]) M a i c0
  | 0, _, _, _ => rfl
  | M + 1, a, i, c0 => (laws_toRouteS_B3_eq N (loopG 23 0 [] (crun tt (laws_toRouteS_C3 N) 23 (lpF Try.f39 0)) [0, 3, 4] (lexit 23 0 laws_toRouteS_L3_x k) M) a i c0 k).trans (congrArg (fun rec => laws_toRouteS_B3 N rec a i c0 (fun c0 => k (.exit 0) [(3, .sl 0)] [.ar 3 0 c0])) (funext fun a => (funext fun i => (funext fun c0 => laws_toRouteS_L3_eq N k M a i c0))))

def laws_toRouteS_L3_s (N : Nat) : LSum := fun R l m k => gcf 23 0 [] [0, 3, 4] l m fun l2 m2 => match l2, m2 with
  | [(z1, .d (.ls a)), (z2, .sl z3), (z4, .d (.int .i64 i))], [.ar z5 z6 c0] => chk (Nat.beq z1 0 && Nat.beq z2 3 && Nat.beq z3 0 && Nat.beq z4 4 && Nat.beq z5 3 && Nat.beq z6 0) (laws_toRouteS_L3 N (fun c0 => k (.exit 0) [(3, .sl 0)] [.ar 3 0 c0]) N a i c0)
  | _, _ => none

theorem laws_toRouteS_L3_ok (N : Nat) : LOK Try.prog 23 0 (lpF Try.f39 0) (laws_toRouteS_L3_s N) := by
  refine (lsum_ok tt_ok mixed (laws_toRouteS_C3_Γ N) (laws_toRouteS_C3_Λ N) [] [0, 3, 4] laws_toRouteS_L3_x N).of ?_
  intro R l m k r h
  unfold laws_toRouteS_L3_s at h
  refine gcf_mono ?_ h
  intro l2 m2 h
  split at h
  · obtain ⟨hc, h⟩ := chk_eq h
    simp only [Bool.and_eq_true, Nat.beq_eq_true_eq] at hc
    obtain ⟨⟨⟨⟨⟨rfl, rfl⟩, rfl⟩, rfl⟩, rfl⟩, rfl⟩ := hc
    rw [laws_toRouteS_L3_eq]
    exact h
  · cases h

def laws_toRouteS_c {R : Type} (N : Nat) (xs : List (List PV)) (k : AV → List AB → Option R) : Option R :=
  chk (decide (0 ≤ (xs.length : Int)) && decide ((xs.length : Int) ≤ (xs.length : Int)) && decide ((xs.length : Int) * 40 ≤ 140737488355328) && decide ((xs.length : Int) ≤ 140737488355328))
  (laws_toRouteS_L3 N (fun c0 =>
    k (.sl 0) [.ar 3 0 c0]) N xs 0 (List.replicate ((xs.length : Int).toNat) [.int .i64 0, .str ⟨#[]⟩, .str ⟨#[]⟩]))

def laws_toRouteS_C (N : Nat) : CC := ⟨Γ_laws_toDecision, (Λc 3 (laws_toRouteS_L3_s N) Λ0), Δ0, Μ0⟩

theorem laws_toRouteS_C_Γ (N : Nat) : ∀ f s, (laws_toRouteS_C N).Γ f = some s → SmrOK Try.prog f s := Γ_laws_toDecision_ok

theorem laws_toRouteS_C_Λ (N : Nat) : ∀ c, Try.f39.body = some c → ∀ b ∈ loopsIn c, ∀ s, (laws_toRouteS_C N).Λ (lid b) = some s → LOK Try.prog Try.f39.ntmps 0 b s :=
  LOKs_ofF (bs := [(lpF Try.f39 0)]) (by kernel_rfl) (LOKs_c (l := laws_toRouteS_L3_s N) (by kernel_rfl) (laws_toRouteS_L3_ok N) LOKs_n)

theorem laws_toRouteS_run {R : Type} (N : Nat) (xs : List (List PV)) (k : AV → List AB → Option R) :
    cfunN tt (laws_toRouteS_C N) Try.f39 0 [.d (.ls xs)] [] k = laws_toRouteS_c N xs k := by kernel_rfl

theorem toRouteS_loop {R : Type} (N : Nat) (rs : List Route) (hl : rs.length ≤ 1048576) (k1 : List (List PV) → Option R) : ∀ (M i : Nat) (us : List Route), i ≤ rs.length → rs.length < i + M → us.length = rs.length → us.take i = rs.take i →
    laws_toRouteS_L3 N k1 M (rs.map Route.pv) (i : Int) (us.map Route.pv) = k1 (rs.map Route.pv)
  | 0, i, us, h1, h2, _, _ => by omega
  | M + 1, i, us, h1, h2, h3, h4 => by
    simp only [laws_toRouteS_L3, laws_toRouteS_B3, bnd, List.length_map]
    by_cases h : i < rs.length
    · rw [lt_t h, br_t, getC_map h]
      simp only [Route.pv, dInt_c, dStr_c, List.length_cons, List.length_nil, Nat.zero_add, Nat.reduceAdd, chk_beq, chk_t, br_t, br_f, bi_s, unRoutes_map, unIvs_map]
      rw [decide_eq_true (show (0 : Int) ≤ i by omega), lt_t (show i < us.length by omega)]
      simp only [Bool.and_self, chk_t, Int.toNat_natCast]
      rw [getN_map (by omega)]
      simp only [List.length_cons, List.length_nil, Nat.zero_add, Nat.reduceAdd, Nat.le_refl, decide_true, chk_t, List.set_set, wrap_s (show i < 4611686018427387904 by omega)]
      have e : (us.map Route.pv).set i (rs[i].pv) = (us.set i rs[i]).map Route.pv := by rw [List.map_set]
      have e2 : ((Route.pv us[i]).set 0 (.int .i64 rs[i].number) |>.set 1 (.str rs[i].low) |>.set 2 (.str rs[i].high)) = rs[i].pv := rfl
      refine Eq.trans ?_ (toRouteS_loop N rs hl k1 M (i + 1) (us.set i rs[i]) (by omega) (by omega) (by simpa using h3) ?_)
      · rw [← e, ← e2]; rfl
      · rw [List.take_succ_eq_append_getElem (by simp; omega), List.take_succ_eq_append_getElem h, List.take_set_of_le (Nat.le_refl _), h4]
        simp
    · have : us = rs := by rw [List.take_of_length_le (by omega), List.take_of_length_le (by omega)] at h4; exact h4
      rw [lt_f h, br_f, this]
theorem laws_toRouteS_ceq {R : Type} (N : Nat) (rs : List Route) (k : AV → List AB → Option R) (hN : rs.length + 1 ≤ N) (hp1 : (decide (rs.length ≤ 1048576)) = true) :
    laws_toRouteS_c N (rs.map Route.pv) k = k (.sl 0) [.ar 3 0 (rs.map Route.pv)] := by
  simp only [decide_eq_true_eq] at hp1
  simp only [laws_toRouteS_c, List.length_map]
  rw [decide_eq_true (show (0 : Int) ≤ rs.length by omega), decide_eq_true (show (rs.length : Int) ≤ rs.length by omega), decide_eq_true (show (rs.length : Int) * 40 ≤ 140737488355328 by omega), decide_eq_true (show (rs.length : Int) ≤ 140737488355328 by omega)]
  simp only [Bool.and_self, chk_t, Int.toNat_natCast]
  have e : List.replicate rs.length [PV.int .i64 0, .str ⟨#[]⟩, .str ⟨#[]⟩] = (List.replicate rs.length zRoute).map Route.pv := by simp [zRoute, Route.pv]
  rw [e]
  exact toRouteS_loop N rs hp1 _ N 0 _ (by omega) (by omega) (by simp) rfl
def laws_toRouteS_sm : Smr := ⟨[false], fun R args mem k => match nilAVs args, mem with
  | [.d (.ls xs)], [] => bi (unRoutes xs) fun rs => chk (decide (rs.length ≤ 1048576)) (k (.sl 0) [.ar 3 0 (rs.map Route.pv)])
  | _, _ => none⟩

theorem laws_toRouteS_ok : SmrOK Try.prog 39 laws_toRouteS_sm := by
  intro R args mem k r h
  simp only [laws_toRouteS_sm] at h
  generalize hA : nilAVs args = args' at h
  split at h
  · rename_i xs
    obtain ⟨rs, hd0, h1⟩ := bi_eq h
    have hd0 := unRoutes_eq hd0
    subst hd0
    obtain ⟨hp1, h2⟩ := chk_eq h1
    replace h := h2
    refine ⟨_, _, Spec.nl hA (spec_of_run tt_ok mixed (laws_toRouteS_C_Γ (rs.length + 1)) Try.func39 (by kernel_rfl) (mem := []) (Nat.le_of_ble_eq_true (by kernel_rfl)) (laws_toRouteS_C_Λ (rs.length + 1)) ((laws_toRouteS_run (rs.length + 1) (rs.map Route.pv) _).trans ((laws_toRouteS_ceq (rs.length + 1) rs _ (Nat.le_refl _) hp1).trans ?_))), h⟩
    rfl
  · cases h

def Γ_laws_toRouteS : FuncId → Option Smr := Γc 39 laws_toRouteS_sm Γ_laws_toDecision
theorem Γ_laws_toRouteS_ok : ∀ f s, Γ_laws_toRouteS f = some s → SmrOK Try.prog f s := Γc_ok laws_toRouteS_ok Γ_laws_toDecision_ok


/- laws.toMaster -/

def laws_toMaster_c {R : Type} (N : Nat) (xs : List (List PV)) (sh : Int) (pk : Int) (pf : Int) (ps : Int) (pb : ByteArray) (pr : Int) (pt : Int) (pe : Int) (tn : Int) (k : AV → List AB → Option R) : Option R :=
  bi (unRoutes xs) fun rs1 =>
  chk (decide (rs1.length ≤ 1048576))
  (k (.agg [.sl 0, .d (.int .i64 sh), .d (.int .i64 pk), .d (.int .i64 pf), .d (.int .i64 ps), .d (.str pb), .d (.int .i64 pr), .d (.int .i64 pt), .d (.int .i64 pe), .d (.int .i64 tn)]) [.ar 3 0 (rs1.map Route.pv)])

def laws_toMaster_C (N : Nat) : CC := ⟨Γ_laws_toRouteS, Λ0, Δ0, Μ0⟩

theorem laws_toMaster_C_Γ (N : Nat) : ∀ f s, (laws_toMaster_C N).Γ f = some s → SmrOK Try.prog f s := Γ_laws_toRouteS_ok

theorem laws_toMaster_C_Λ (N : Nat) : ∀ c, Try.f9.body = some c → ∀ b ∈ loopsIn c, ∀ s, (laws_toMaster_C N).Λ (lid b) = some s → LOK Try.prog Try.f9.ntmps 0 b s :=
  LOKs_ofF (bs := []) (by kernel_rfl) LOKs_n

theorem laws_toMaster_run {R : Type} (N : Nat) (xs : List (List PV)) (sh : Int) (pk : Int) (pf : Int) (ps : Int) (pb : ByteArray) (pr : Int) (pt : Int) (pe : Int) (tn : Int) (k : AV → List AB → Option R) :
    cfunN tt (laws_toMaster_C N) Try.f9 0 [.agg [.d (.ls xs), .d (.int .i64 sh), .d (.int .i64 pk), .d (.int .i64 pf), .d (.int .i64 ps), .d (.str pb), .d (.int .i64 pr), .d (.int .i64 pt), .d (.int .i64 pe), .d (.int .i64 tn)]] [] k = laws_toMaster_c N xs sh pk pf ps pb pr pt pe tn k := by kernel_rfl

theorem laws_toMaster_ceq {R : Type} (N : Nat) (sh : Int) (pk : Int) (pf : Int) (ps : Int) (pb : ByteArray) (pr : Int) (pt : Int) (pe : Int) (tn : Int) (rs : List Route) (k : AV → List AB → Option R) (hp1 : (decide (rs.length ≤ 1048576)) = true) :
    laws_toMaster_c N (rs.map Route.pv) sh pk pf ps pb pr pt pe tn k = k (.agg [.sl 0, .d (.int .i64 sh), .d (.int .i64 pk), .d (.int .i64 pf), .d (.int .i64 ps), .d (.str pb), .d (.int .i64 pr), .d (.int .i64 pt), .d (.int .i64 pe), .d (.int .i64 tn)]) [.ar 3 0 (rs.map Route.pv)] := by
  simp only [laws_toMaster_c, Route.pv, dInt_c, dStr_c, List.length_cons, List.length_nil, Nat.zero_add, Nat.reduceAdd, chk_beq, chk_t, br_t, br_f, bi_s, unRoutes_map, unIvs_map, hp1]
def laws_toMaster_sm : Smr := ⟨[false], fun R args mem k => match nilAVs args, mem with
  | [.agg [.d (.ls xs), .d (.int .i64 sh), .d (.int .i64 pk), .d (.int .i64 pf), .d (.int .i64 ps), .d (.str pb), .d (.int .i64 pr), .d (.int .i64 pt), .d (.int .i64 pe), .d (.int .i64 tn)]], [] => bi (unRoutes xs) fun rs => chk (decide (rs.length ≤ 1048576)) (k (.agg [.sl 0, .d (.int .i64 sh), .d (.int .i64 pk), .d (.int .i64 pf), .d (.int .i64 ps), .d (.str pb), .d (.int .i64 pr), .d (.int .i64 pt), .d (.int .i64 pe), .d (.int .i64 tn)]) [.ar 3 0 (rs.map Route.pv)])
  | _, _ => none⟩

theorem laws_toMaster_ok : SmrOK Try.prog 9 laws_toMaster_sm := by
  intro R args mem k r h
  simp only [laws_toMaster_sm] at h
  generalize hA : nilAVs args = args' at h
  split at h
  · rename_i xs sh pk pf ps pb pr pt pe tn
    obtain ⟨rs, hd0, h1⟩ := bi_eq h
    have hd0 := unRoutes_eq hd0
    subst hd0
    obtain ⟨hp1, h2⟩ := chk_eq h1
    replace h := h2
    refine ⟨_, _, Spec.nl hA (spec_of_run tt_ok mixed (laws_toMaster_C_Γ 0) Try.func9 (by kernel_rfl) (mem := []) (Nat.le_of_ble_eq_true (by kernel_rfl)) (laws_toMaster_C_Λ 0) ((laws_toMaster_run 0 (rs.map Route.pv) sh pk pf ps pb pr pt pe tn _).trans ((laws_toMaster_ceq 0 sh pk pf ps pb pr pt pe tn rs _ hp1).trans ?_))), h⟩
    rfl
  · cases h

def Γ_laws_toMaster : FuncId → Option Smr := Γc 9 laws_toMaster_sm Γ_laws_toRouteS
theorem Γ_laws_toMaster_ok : ∀ f s, Γ_laws_toMaster f = some s → SmrOK Try.prog f s := Γc_ok laws_toMaster_ok Γ_laws_toRouteS_ok


/- laws.eqInterval -/

def laws_eqInterval_c {R : Type} (N : Nat) (a : ByteArray) (b : ByteArray) (c : ByteArray) (d : ByteArray) (k : AV → List AB → Option R) : Option R :=
  br (!(decide (a = c)))
  (k (.d (.bool false)) [])
  (br (!(decide (b = d)))
   (k (.d (.bool false)) [])
   (k (.d (.bool true)) []))

def laws_eqInterval_C (N : Nat) : CC := ⟨Γ_laws_toMaster, Λ0, Δ0, Μ0⟩

theorem laws_eqInterval_C_Γ (N : Nat) : ∀ f s, (laws_eqInterval_C N).Γ f = some s → SmrOK Try.prog f s := Γ_laws_toMaster_ok

theorem laws_eqInterval_C_Λ (N : Nat) : ∀ c, Try.f123.body = some c → ∀ b ∈ loopsIn c, ∀ s, (laws_eqInterval_C N).Λ (lid b) = some s → LOK Try.prog Try.f123.ntmps 0 b s :=
  LOKs_ofF (bs := []) (by kernel_rfl) LOKs_n

theorem laws_eqInterval_run {R : Type} (N : Nat) (a : ByteArray) (b : ByteArray) (c : ByteArray) (d : ByteArray) (k : AV → List AB → Option R) :
    cfunN tt (laws_eqInterval_C N) Try.f123 0 [.agg [.d (.str a), .d (.str b)], .agg [.d (.str c), .d (.str d)]] [] k = laws_eqInterval_c N a b c d k := by kernel_rfl

theorem laws_eqInterval_ceq {R : Type} (N : Nat) (a : ByteArray) (b : ByteArray) (c : ByteArray) (d : ByteArray) (k : AV → List AB → Option R) :
    laws_eqInterval_c N a b c d k = k (.d (.bool (decide (Iv.mk a b = Iv.mk c d)))) [] := by
  simp only [laws_eqInterval_c, br_kb, br_not]
  congr 3
  by_cases h1 : a = c <;> by_cases h2 : b = d <;> simp [h1, h2]
def laws_eqInterval_sm : Smr := ⟨[false, false], fun R args mem k => match nilAVs args, mem with
  | [.agg [.d (.str a), .d (.str b)], .agg [.d (.str c), .d (.str d)]], [] => k (.d (.bool (decide (Iv.mk a b = Iv.mk c d)))) []
  | _, _ => none⟩

theorem laws_eqInterval_ok : SmrOK Try.prog 123 laws_eqInterval_sm := by
  intro R args mem k r h
  simp only [laws_eqInterval_sm] at h
  generalize hA : nilAVs args = args' at h
  split at h
  · rename_i a b c d
    refine ⟨_, _, Spec.nl hA (spec_of_run tt_ok mixed (laws_eqInterval_C_Γ 0) Try.func123 (by kernel_rfl) (mem := []) (Nat.le_of_ble_eq_true (by kernel_rfl)) (laws_eqInterval_C_Λ 0) ((laws_eqInterval_run 0 a b c d _).trans ((laws_eqInterval_ceq 0 a b c d _).trans ?_))), h⟩
    rfl
  · cases h

def Γ_laws_eqInterval : FuncId → Option Smr := Γc 123 laws_eqInterval_sm Γ_laws_toMaster
theorem Γ_laws_eqInterval_ok : ∀ f s, Γ_laws_eqInterval f = some s → SmrOK Try.prog f s := Γc_ok laws_eqInterval_ok Γ_laws_toMaster_ok

/- laws.eqRoute -/

def laws_eqRoute_c {R : Type} (N : Nat) (n : Int) (a : ByteArray) (b : ByteArray) (o : Int) (c : ByteArray) (d : ByteArray) (k : AV → List AB → Option R) : Option R :=
  br (n != o)
  (k (.d (.bool false)) [])
  (br (!(decide (Iv.mk a b = Iv.mk c d)))
   (k (.d (.bool false)) [])
   (k (.d (.bool true)) []))

def laws_eqRoute_C (N : Nat) : CC := ⟨Γ_laws_eqInterval, Λ0, Δ0, Μ0⟩

theorem laws_eqRoute_C_Γ (N : Nat) : ∀ f s, (laws_eqRoute_C N).Γ f = some s → SmrOK Try.prog f s := Γ_laws_eqInterval_ok

theorem laws_eqRoute_C_Λ (N : Nat) : ∀ c, Try.f88.body = some c → ∀ b ∈ loopsIn c, ∀ s, (laws_eqRoute_C N).Λ (lid b) = some s → LOK Try.prog Try.f88.ntmps 0 b s :=
  LOKs_ofF (bs := []) (by kernel_rfl) LOKs_n

theorem laws_eqRoute_run {R : Type} (N : Nat) (n : Int) (a : ByteArray) (b : ByteArray) (o : Int) (c : ByteArray) (d : ByteArray) (k : AV → List AB → Option R) :
    cfunN tt (laws_eqRoute_C N) Try.f88 0 [.agg [.d (.int .i64 n), .d (.str a), .d (.str b)], .agg [.d (.int .i64 o), .d (.str c), .d (.str d)]] [] k = laws_eqRoute_c N n a b o c d k := by kernel_rfl

theorem laws_eqRoute_ceq {R : Type} (N : Nat) (n : Int) (a : ByteArray) (b : ByteArray) (o : Int) (c : ByteArray) (d : ByteArray) (k : AV → List AB → Option R) :
    laws_eqRoute_c N n a b o c d k = k (.d (.bool (decide (Route.mk n a b = Route.mk o c d)))) [] := by
  simp only [laws_eqRoute_c, br_kb, br_not]
  congr 3
  by_cases h0 : n = o <;> by_cases h1 : a = c <;> by_cases h2 : b = d <;> simp [h0, h1, h2]
def laws_eqRoute_sm : Smr := ⟨[false, false], fun R args mem k => match nilAVs args, mem with
  | [.agg [.d (.int .i64 n), .d (.str a), .d (.str b)], .agg [.d (.int .i64 o), .d (.str c), .d (.str d)]], [] => k (.d (.bool (decide (Route.mk n a b = Route.mk o c d)))) []
  | _, _ => none⟩

theorem laws_eqRoute_ok : SmrOK Try.prog 88 laws_eqRoute_sm := by
  intro R args mem k r h
  simp only [laws_eqRoute_sm] at h
  generalize hA : nilAVs args = args' at h
  split at h
  · rename_i n a b o c d
    refine ⟨_, _, Spec.nl hA (spec_of_run tt_ok mixed (laws_eqRoute_C_Γ 0) Try.func88 (by kernel_rfl) (mem := []) (Nat.le_of_ble_eq_true (by kernel_rfl)) (laws_eqRoute_C_Λ 0) ((laws_eqRoute_run 0 n a b o c d _).trans ((laws_eqRoute_ceq 0 n a b o c d _).trans ?_))), h⟩
    rfl
  · cases h

def Γ_laws_eqRoute : FuncId → Option Smr := Γc 88 laws_eqRoute_sm Γ_laws_eqInterval
theorem Γ_laws_eqRoute_ok : ∀ f s, Γ_laws_eqRoute f = some s → SmrOK Try.prog f s := Γc_ok laws_eqRoute_ok Γ_laws_eqInterval_ok

/- laws.eqPlan -/

def laws_eqPlan_c {R : Type} (N : Nat) (pk : Int) (pf : Int) (ps : Int) (pb : ByteArray) (pr : Int) (pt : Int) (pe : Int) (qk : Int) (qf : Int) (qs : Int) (qb : ByteArray) (qr : Int) (qt : Int) (qe : Int) (k : AV → List AB → Option R) : Option R :=
  br (pk != qk)
  (k (.d (.bool false)) [])
  (br (pf != qf)
   (k (.d (.bool false)) [])
   (br (ps != qs)
    (k (.d (.bool false)) [])
    (br (!(decide (pb = qb)))
     (k (.d (.bool false)) [])
     (br (pr != qr)
      (k (.d (.bool false)) [])
      (br (pt != qt)
       (k (.d (.bool false)) [])
       (br (pe != qe)
        (k (.d (.bool false)) [])
        (k (.d (.bool true)) [])))))))

def laws_eqPlan_C (N : Nat) : CC := ⟨Γ_laws_eqRoute, Λ0, Δ0, Μ0⟩

theorem laws_eqPlan_C_Γ (N : Nat) : ∀ f s, (laws_eqPlan_C N).Γ f = some s → SmrOK Try.prog f s := Γ_laws_eqRoute_ok

theorem laws_eqPlan_C_Λ (N : Nat) : ∀ c, Try.f47.body = some c → ∀ b ∈ loopsIn c, ∀ s, (laws_eqPlan_C N).Λ (lid b) = some s → LOK Try.prog Try.f47.ntmps 0 b s :=
  LOKs_ofF (bs := []) (by kernel_rfl) LOKs_n

theorem laws_eqPlan_run {R : Type} (N : Nat) (pk : Int) (pf : Int) (ps : Int) (pb : ByteArray) (pr : Int) (pt : Int) (pe : Int) (qk : Int) (qf : Int) (qs : Int) (qb : ByteArray) (qr : Int) (qt : Int) (qe : Int) (k : AV → List AB → Option R) :
    cfunN tt (laws_eqPlan_C N) Try.f47 0 [.agg [.d (.int .i64 pk), .d (.int .i64 pf), .d (.int .i64 ps), .d (.str pb), .d (.int .i64 pr), .d (.int .i64 pt), .d (.int .i64 pe)], .agg [.d (.int .i64 qk), .d (.int .i64 qf), .d (.int .i64 qs), .d (.str qb), .d (.int .i64 qr), .d (.int .i64 qt), .d (.int .i64 qe)]] [] k = laws_eqPlan_c N pk pf ps pb pr pt pe qk qf qs qb qr qt qe k := by kernel_rfl

theorem laws_eqPlan_ceq {R : Type} (N : Nat) (pk : Int) (pf : Int) (ps : Int) (pb : ByteArray) (pr : Int) (pt : Int) (pe : Int) (qk : Int) (qf : Int) (qs : Int) (qb : ByteArray) (qr : Int) (qt : Int) (qe : Int) (k : AV → List AB → Option R) :
    laws_eqPlan_c N pk pf ps pb pr pt pe qk qf qs qb qr qt qe k = k (.d (.bool (decide (Plan.mk pk pf ps pb pr pt pe = Plan.mk qk qf qs qb qr qt qe)))) [] := by
  simp only [laws_eqPlan_c, br_kb, br_not]
  congr 3
  by_cases h1 : pk = qk <;> by_cases h2 : pf = qf <;> by_cases h3 : ps = qs <;> simp [h1, h2, h3] <;>
  by_cases h4 : pb = qb <;> by_cases h5 : pr = qr <;> by_cases h6 : pt = qt <;> by_cases h7 : pe = qe <;> simp [h4, h5, h6, h7]
def laws_eqPlan_sm : Smr := ⟨[false, false], fun R args mem k => match nilAVs args, mem with
  | [.agg [.d (.int .i64 pk), .d (.int .i64 pf), .d (.int .i64 ps), .d (.str pb), .d (.int .i64 pr), .d (.int .i64 pt), .d (.int .i64 pe)], .agg [.d (.int .i64 qk), .d (.int .i64 qf), .d (.int .i64 qs), .d (.str qb), .d (.int .i64 qr), .d (.int .i64 qt), .d (.int .i64 qe)]], [] => k (.d (.bool (decide (Plan.mk pk pf ps pb pr pt pe = Plan.mk qk qf qs qb qr qt qe)))) []
  | _, _ => none⟩

theorem laws_eqPlan_ok : SmrOK Try.prog 47 laws_eqPlan_sm := by
  intro R args mem k r h
  simp only [laws_eqPlan_sm] at h
  generalize hA : nilAVs args = args' at h
  split at h
  · rename_i pk pf ps pb pr pt pe qk qf qs qb qr qt qe
    refine ⟨_, _, Spec.nl hA (spec_of_run tt_ok mixed (laws_eqPlan_C_Γ 0) Try.func47 (by kernel_rfl) (mem := []) (Nat.le_of_ble_eq_true (by kernel_rfl)) (laws_eqPlan_C_Λ 0) ((laws_eqPlan_run 0 pk pf ps pb pr pt pe qk qf qs qb qr qt qe _).trans ((laws_eqPlan_ceq 0 pk pf ps pb pr pt pe qk qf qs qb qr qt qe _).trans ?_))), h⟩
    rfl
  · cases h

def Γ_laws_eqPlan : FuncId → Option Smr := Γc 47 laws_eqPlan_sm Γ_laws_eqRoute
theorem Γ_laws_eqPlan_ok : ∀ f s, Γ_laws_eqPlan f = some s → SmrOK Try.prog f s := Γc_ok laws_eqPlan_ok Γ_laws_eqRoute_ok


/- laws.eqRouteS -/

def laws_eqRouteS_B4 {R : Type} (N : Nat) (rec : List (List PV) → List (List PV) → Int → Option R) (a : List (List PV)) (b : List (List PV)) (i : Int) (k1 : Bool → Option R) (k2 : Option R) : Option R :=
  br (decide (i < (a.length : Int)))
  (getC a i fun x1 =>
   dInt .i64 x1 fun n3 r2 => dStr r2 fun s5 r4 => dStr r4 fun s7 r6 =>
   chk (Nat.beq x1.length 3)
   (getC b i fun x8 =>
    dInt .i64 x8 fun n10 r9 => dStr r9 fun s12 r11 => dStr r11 fun s14 r13 =>
    chk (Nat.beq x8.length 3)
    (br (!(decide (Route.mk n3 s5 s7 = Route.mk n10 s12 s14)))
     (k1 false)
     (rec a b (IntKind.i64.wrap (i + 1))))))
  (k2 )

def laws_eqRouteS_L4 {R : Type} (N : Nat) (k1 : Bool → Option R) (k2 : Option R) : Nat → List (List PV) → List (List PV) → Int → Option R
  | 0, _, _, _ => none
  | M + 1, a, b, i => laws_eqRouteS_B4 N (laws_eqRouteS_L4 N k1 k2 M) a b i k1 k2

def laws_eqRouteS_L4_x (e : Ex) : List Nat := (fun e => match e with
    | .normal => []
    | .exit id => match Nat.beq id 0 with | true => [] | false => []
    | .ret => [4]) e

def laws_eqRouteS_dr6 : List DI := [⟨0, 0, [18, 21, 22, 23, 24], [], 1⟩, ⟨1, 0, [17, 21, 22, 23, 24], [], 1⟩, ⟨2, 3, [21, 22, 23, 24], [], 1⟩, ⟨3, 7, [21, 22, 23, 24], [], 1⟩, ⟨4, 0, [17, 18, 19, 20, 22], [], 1⟩, ⟨5, 0, [17, 18, 19, 20, 21], [], 1⟩, ⟨6, 48, [17, 18, 19, 20], [], 1⟩, ⟨7, 112, [17, 18, 19, 20], [], 1⟩, ⟨8, 255, [], [], 0⟩, ⟨9, 511, [], [], 1⟩]

def laws_eqRouteS_C4 (N : Nat) : CC := ⟨Γ_laws_eqPlan, Λ0, (Δc 6 laws_eqRouteS_dr6 Δ0), Μ0⟩

theorem laws_eqRouteS_C4_Γ (N : Nat) : ∀ f s, (laws_eqRouteS_C4 N).Γ f = some s → SmrOK Try.prog f s := Γ_laws_eqPlan_ok

theorem laws_eqRouteS_C4_Λ (N : Nat) : ∀ b ∈ loopsIn (lpF Try.f46 0), ∀ s, (laws_eqRouteS_C4 N).Λ (lid b) = some s → LOK Try.prog 27 0 b s :=
  LOKs_of (bs := []) (by kernel_rfl) LOKs_n

theorem laws_eqRouteS_B4_eq {R : Type} (N : Nat) (rec : TL → List AB → Option R) (a : List (List PV)) (b : List (List PV)) (i : Int) (k : Ex → TL → List AB → Option R) :
    (crun tt (laws_eqRouteS_C4 N) 27 (lpF Try.f46 0)) [(0, .d (.ls a)), (1, .d (.ls b)), (5, .d (.int .i64 i))] [] (lnext 27 0 [] [0, 1, 5] rec (lexit 27 0 laws_eqRouteS_L4_x k)) =
    laws_eqRouteS_B4 N (fun a b i => rec [(0, .d (.ls a)), (1, .d (.ls b)), (5, .d (.int .i64 i))] []) a b i (fun v => k (.ret) [(4, .d (.bool v))] []) (k (.exit 0) [] []) := by kernel_rfl

theorem laws_eqRouteS_L4_eq {R : Type} (N : Nat) (k : Ex → TL → List AB → Option R) : ∀ (M : Nat) (a : List (List PV)) (b : List (List PV)) (i : Int), loopG 27 0 [] (crun tt (laws_eqRouteS_C4 N) 27 (lpF Try.f46 0)) [0, 1, 5] (lexit 27 0 laws_eqRouteS_L4_x k) M [(0, .d (.ls a)), (1, .d (.ls b)), (5, .d (.int .i64 i))] [] =
    laws_eqRouteS_L4 N (fun v => k (.ret) [(4, .d (.bool v))] []) (k (.exit 0) [] []) M a b i
  | 0, _, _, _ => rfl
  | M + 1, a, b, i => (laws_eqRouteS_B4_eq N (loopG 27 0 [] (crun tt (laws_eqRouteS_C4 N) 27 (lpF Try.f46 0)) [0, 1, 5] (lexit 27 0 laws_eqRouteS_L4_x k) M) a b i k).trans (congrArg (fun rec => laws_eqRouteS_B4 N rec a b i (fun v => k (.ret) [(4, .d (.bool v))] []) (k (.exit 0) [] [])) (funext fun a => (funext fun b => (funext fun i => laws_eqRouteS_L4_eq N k M a b i))))

def laws_eqRouteS_L4_s (N : Nat) : LSum := fun R l m k => gcf 27 0 [] [0, 1, 5] l m fun l2 m2 => match l2, m2 with
  | [(z1, .d (.ls a)), (z2, .d (.ls b)), (z3, .d (.int .i64 i))], [] => chk (Nat.beq z1 0 && Nat.beq z2 1 && Nat.beq z3 5) (laws_eqRouteS_L4 N (fun v => k (.ret) [(4, .d (.bool v))] []) (k (.exit 0) [] []) N a b i)
  | _, _ => none

theorem laws_eqRouteS_L4_ok (N : Nat) : LOK Try.prog 27 0 (lpF Try.f46 0) (laws_eqRouteS_L4_s N) := by
  refine (lsum_ok tt_ok mixed (laws_eqRouteS_C4_Γ N) (laws_eqRouteS_C4_Λ N) [] [0, 1, 5] laws_eqRouteS_L4_x N).of ?_
  intro R l m k r h
  unfold laws_eqRouteS_L4_s at h
  refine gcf_mono ?_ h
  intro l2 m2 h
  split at h
  · obtain ⟨hc, h⟩ := chk_eq h
    simp only [Bool.and_eq_true, Nat.beq_eq_true_eq] at hc
    obtain ⟨⟨rfl, rfl⟩, rfl⟩ := hc
    rw [laws_eqRouteS_L4_eq]
    exact h
  · cases h

def laws_eqRouteS_c {R : Type} (N : Nat) (xs : List (List PV)) (ys : List (List PV)) (k : AV → List AB → Option R) : Option R :=
  br ((xs.length : Int) != (ys.length : Int))
  (k (.d (.bool false)) [])
  (laws_eqRouteS_L4 N (fun v =>
    k (.d (.bool v)) [])
   (k (.d (.bool true)) []) N xs ys 0)

def laws_eqRouteS_C (N : Nat) : CC := ⟨Γ_laws_eqPlan, (Λc 4 (laws_eqRouteS_L4_s N) Λ0), (Δc 6 laws_eqRouteS_dr6 Δ0), Μ0⟩

theorem laws_eqRouteS_C_Γ (N : Nat) : ∀ f s, (laws_eqRouteS_C N).Γ f = some s → SmrOK Try.prog f s := Γ_laws_eqPlan_ok

theorem laws_eqRouteS_C_Λ (N : Nat) : ∀ c, Try.f46.body = some c → ∀ b ∈ loopsIn c, ∀ s, (laws_eqRouteS_C N).Λ (lid b) = some s → LOK Try.prog Try.f46.ntmps 0 b s :=
  LOKs_ofF (bs := [(lpF Try.f46 0)]) (by kernel_rfl) (LOKs_c (l := laws_eqRouteS_L4_s N) (by kernel_rfl) (laws_eqRouteS_L4_ok N) LOKs_n)

theorem laws_eqRouteS_run {R : Type} (N : Nat) (xs : List (List PV)) (ys : List (List PV)) (k : AV → List AB → Option R) :
    cfunN tt (laws_eqRouteS_C N) Try.f46 0 [.d (.ls xs), .d (.ls ys)] [] k = laws_eqRouteS_c N xs ys k := by kernel_rfl

theorem eqRouteS_loop {R : Type} (N : Nat) (rs qs : List Route) (hl : rs.length ≤ 1048576) (he : rs.length = qs.length) (k1 : Bool → Option R) (k2 : Option R) : ∀ (M i : Nat), i ≤ rs.length → rs.length < i + M → rs.take i = qs.take i →
    laws_eqRouteS_L4 N k1 k2 M (rs.map Route.pv) (qs.map Route.pv) (i : Int) = if rs = qs then k2 else k1 false
  | 0, i, h1, h2, _ => by omega
  | M + 1, i, h1, h2, h3 => by
    simp only [laws_eqRouteS_L4, laws_eqRouteS_B4, List.length_map]
    by_cases h : i < rs.length
    · rw [lt_t h, br_t, getC_map h]
      simp only [Route.pv, dInt_c, dStr_c, List.length_cons, List.length_nil, Nat.zero_add, Nat.reduceAdd, chk_beq, chk_t, br_t, br_f, bi_s, unRoutes_map, unIvs_map]
      rw [getC_map (by omega)]
      simp only [Route.pv, dInt_c, dStr_c, List.length_cons, List.length_nil, Nat.zero_add, Nat.reduceAdd, chk_beq, chk_t, br_t, br_f, bi_s, unRoutes_map, unIvs_map]
      by_cases h5 : rs[i] = qs[i]
      · rw [decide_eq_true (show Route.mk rs[i].number rs[i].low rs[i].high = Route.mk qs[i].number qs[i].low qs[i].high from h5)]
        simp only [Bool.not_true, br_f, wrap_s (show i < 4611686018427387904 by omega)]
        exact eqRouteS_loop N rs qs hl he k1 k2 M (i + 1) (by omega) (by omega) (take_step h3 (by omega) (by omega) h5)
      · rw [decide_eq_false (show ¬ Route.mk rs[i].number rs[i].low rs[i].high = Route.mk qs[i].number qs[i].low qs[i].high from h5), if_neg (ne_at (by omega) (by omega) h5)]
        rfl
    · rw [lt_f h, br_f, if_pos (take_done h3 (by omega) he)]
theorem laws_eqRouteS_ceq {R : Type} (N : Nat) (rs : List Route) (qs : List Route) (k : AV → List AB → Option R) (hN : rs.length + 1 ≤ N) (hp1 : (decide (rs.length ≤ 1048576)) = true) (hp2 : (decide (qs.length ≤ 1048576)) = true) :
    laws_eqRouteS_c N (rs.map Route.pv) (qs.map Route.pv) k = k (.d (.bool (decide (rs = qs)))) [] := by
  simp only [decide_eq_true_eq] at hp1 hp2
  simp only [laws_eqRouteS_c, List.length_map]
  by_cases h : rs.length = qs.length
  · have h1 : ((rs.length : Int) != (qs.length : Int)) = false := by simp [h]
    rw [h1, br_f]
    refine (eqRouteS_loop N rs qs hp1 h _ _ N 0 (by omega) (by omega) rfl).trans ?_
    by_cases h2 : rs = qs <;> simp [h2]
  · have h1 : ((rs.length : Int) != (qs.length : Int)) = true := by simp; omega
    have h2 : ¬ rs = qs := fun e => h (by rw [e])
    rw [h1, br_t, decide_eq_false h2]
def laws_eqRouteS_sm : Smr := ⟨[false, false], fun R args mem k => match nilAVs args, mem with
  | [.d (.ls xs), .d (.ls ys)], [] => bi (unRoutes xs) fun rs => bi (unRoutes ys) fun qs => chk (decide (rs.length ≤ 1048576)) (chk (decide (qs.length ≤ 1048576)) (k (.d (.bool (decide (rs = qs)))) []))
  | _, _ => none⟩

theorem laws_eqRouteS_ok : SmrOK Try.prog 46 laws_eqRouteS_sm := by
  intro R args mem k r h
  simp only [laws_eqRouteS_sm] at h
  generalize hA : nilAVs args = args' at h
  split at h
  · rename_i xs ys
    obtain ⟨rs, hd0, h1⟩ := bi_eq h
    have hd0 := unRoutes_eq hd0
    subst hd0
    obtain ⟨qs, hd1, h2⟩ := bi_eq h1
    have hd1 := unRoutes_eq hd1
    subst hd1
    obtain ⟨hp1, h3⟩ := chk_eq h2
    obtain ⟨hp2, h4⟩ := chk_eq h3
    replace h := h4
    refine ⟨_, _, Spec.nl hA (spec_of_run tt_ok mixed (laws_eqRouteS_C_Γ (rs.length + 1)) Try.func46 (by kernel_rfl) (mem := []) (Nat.le_of_ble_eq_true (by kernel_rfl)) (laws_eqRouteS_C_Λ (rs.length + 1)) ((laws_eqRouteS_run (rs.length + 1) (rs.map Route.pv) (qs.map Route.pv) _).trans ((laws_eqRouteS_ceq (rs.length + 1) rs qs _ (Nat.le_refl _) hp1 hp2).trans ?_))), h⟩
    rfl
  · cases h

def Γ_laws_eqRouteS : FuncId → Option Smr := Γc 46 laws_eqRouteS_sm Γ_laws_eqPlan
theorem Γ_laws_eqRouteS_ok : ∀ f s, Γ_laws_eqRouteS f = some s → SmrOK Try.prog f s := Γc_ok laws_eqRouteS_ok Γ_laws_eqPlan_ok


/- laws.eqMaster -/

def laws_eqMaster_c {R : Type} (N : Nat) (xs : List (List PV)) (sh : Int) (pk : Int) (pf : Int) (ps : Int) (pb : ByteArray) (pr : Int) (pt : Int) (pe : Int) (tn : Int) (ys : List (List PV)) (th : Int) (qk : Int) (qf : Int) (qs : Int) (qb : ByteArray) (qr : Int) (qt : Int) (qe : Int) (un : Int) (k : AV → List AB → Option R) : Option R :=
  bi (unRoutes xs) fun rs1 =>
  bi (unRoutes ys) fun qs2 =>
  chk (decide (rs1.length ≤ 1048576))
  (chk (decide (qs2.length ≤ 1048576))
   (br (!(decide (rs1 = qs2)))
    (k (.d (.bool false)) [])
    (br (sh != th)
     (k (.d (.bool false)) [])
     (br (!(decide (Plan.mk pk pf ps pb pr pt pe = Plan.mk qk qf qs qb qr qt qe)))
      (k (.d (.bool false)) [])
      (br (tn != un)
       (k (.d (.bool false)) [])
       (k (.d (.bool true)) []))))))

def laws_eqMaster_C (N : Nat) : CC := ⟨Γ_laws_eqRouteS, Λ0, Δ0, Μ0⟩

theorem laws_eqMaster_C_Γ (N : Nat) : ∀ f s, (laws_eqMaster_C N).Γ f = some s → SmrOK Try.prog f s := Γ_laws_eqRouteS_ok

theorem laws_eqMaster_C_Λ (N : Nat) : ∀ c, Try.f12.body = some c → ∀ b ∈ loopsIn c, ∀ s, (laws_eqMaster_C N).Λ (lid b) = some s → LOK Try.prog Try.f12.ntmps 0 b s :=
  LOKs_ofF (bs := []) (by kernel_rfl) LOKs_n

theorem laws_eqMaster_run {R : Type} (N : Nat) (xs : List (List PV)) (sh : Int) (pk : Int) (pf : Int) (ps : Int) (pb : ByteArray) (pr : Int) (pt : Int) (pe : Int) (tn : Int) (ys : List (List PV)) (th : Int) (qk : Int) (qf : Int) (qs : Int) (qb : ByteArray) (qr : Int) (qt : Int) (qe : Int) (un : Int) (k : AV → List AB → Option R) :
    cfunN tt (laws_eqMaster_C N) Try.f12 0 [.agg [.d (.ls xs), .d (.int .i64 sh), .d (.int .i64 pk), .d (.int .i64 pf), .d (.int .i64 ps), .d (.str pb), .d (.int .i64 pr), .d (.int .i64 pt), .d (.int .i64 pe), .d (.int .i64 tn)], .agg [.d (.ls ys), .d (.int .i64 th), .d (.int .i64 qk), .d (.int .i64 qf), .d (.int .i64 qs), .d (.str qb), .d (.int .i64 qr), .d (.int .i64 qt), .d (.int .i64 qe), .d (.int .i64 un)]] [] k = laws_eqMaster_c N xs sh pk pf ps pb pr pt pe tn ys th qk qf qs qb qr qt qe un k := by kernel_rfl

theorem laws_eqMaster_ceq {R : Type} (N : Nat) (sh : Int) (pk : Int) (pf : Int) (ps : Int) (pb : ByteArray) (pr : Int) (pt : Int) (pe : Int) (tn : Int) (th : Int) (qk : Int) (qf : Int) (qs : Int) (qb : ByteArray) (qr : Int) (qt : Int) (qe : Int) (un : Int) (rs : List Route) (us : List Route) (k : AV → List AB → Option R) (hp1 : (decide (rs.length ≤ 1048576)) = true) (hp2 : (decide (us.length ≤ 1048576)) = true) :
    laws_eqMaster_c N (rs.map Route.pv) sh pk pf ps pb pr pt pe tn (us.map Route.pv) th qk qf qs qb qr qt qe un k = k (.d (.bool (decide (Master.mk rs sh ⟨pk, pf, ps, pb, pr, pt, pe⟩ tn = Master.mk us th ⟨qk, qf, qs, qb, qr, qt, qe⟩ un)))) [] := by
  simp only [laws_eqMaster_c, Route.pv, dInt_c, dStr_c, List.length_cons, List.length_nil, Nat.zero_add, Nat.reduceAdd, chk_beq, chk_t, br_t, br_f, bi_s, unRoutes_map, unIvs_map, hp1, hp2, br_not, br_kb]
  congr 3
  by_cases h1 : rs = us <;> by_cases h2 : sh = th <;> by_cases h4 : tn = un <;> simp [h1, h2, h4]
def laws_eqMaster_sm : Smr := ⟨[false, false], fun R args mem k => match nilAVs args, mem with
  | [.agg [.d (.ls xs), .d (.int .i64 sh), .d (.int .i64 pk), .d (.int .i64 pf), .d (.int .i64 ps), .d (.str pb), .d (.int .i64 pr), .d (.int .i64 pt), .d (.int .i64 pe), .d (.int .i64 tn)], .agg [.d (.ls ys), .d (.int .i64 th), .d (.int .i64 qk), .d (.int .i64 qf), .d (.int .i64 qs), .d (.str qb), .d (.int .i64 qr), .d (.int .i64 qt), .d (.int .i64 qe), .d (.int .i64 un)]], [] => bi (unRoutes xs) fun rs => bi (unRoutes ys) fun us => chk (decide (rs.length ≤ 1048576)) (chk (decide (us.length ≤ 1048576)) (k (.d (.bool (decide (Master.mk rs sh ⟨pk, pf, ps, pb, pr, pt, pe⟩ tn = Master.mk us th ⟨qk, qf, qs, qb, qr, qt, qe⟩ un)))) []))
  | _, _ => none⟩

theorem laws_eqMaster_ok : SmrOK Try.prog 12 laws_eqMaster_sm := by
  intro R args mem k r h
  simp only [laws_eqMaster_sm] at h
  generalize hA : nilAVs args = args' at h
  split at h
  · rename_i xs sh pk pf ps pb pr pt pe tn ys th qk qf qs qb qr qt qe un
    obtain ⟨rs, hd0, h1⟩ := bi_eq h
    have hd0 := unRoutes_eq hd0
    subst hd0
    obtain ⟨us, hd1, h2⟩ := bi_eq h1
    have hd1 := unRoutes_eq hd1
    subst hd1
    obtain ⟨hp1, h3⟩ := chk_eq h2
    obtain ⟨hp2, h4⟩ := chk_eq h3
    replace h := h4
    refine ⟨_, _, Spec.nl hA (spec_of_run tt_ok mixed (laws_eqMaster_C_Γ 0) Try.func12 (by kernel_rfl) (mem := []) (Nat.le_of_ble_eq_true (by kernel_rfl)) (laws_eqMaster_C_Λ 0) ((laws_eqMaster_run 0 (rs.map Route.pv) sh pk pf ps pb pr pt pe tn (us.map Route.pv) th qk qf qs qb qr qt qe un _).trans ((laws_eqMaster_ceq 0 sh pk pf ps pb pr pt pe tn th qk qf qs qb qr qt qe un rs us _ hp1 hp2).trans ?_))), h⟩
    rfl
  · cases h

def Γ_laws_eqMaster : FuncId → Option Smr := Γc 12 laws_eqMaster_sm Γ_laws_eqRouteS
theorem Γ_laws_eqMaster_ok : ∀ f s, Γ_laws_eqMaster f = some s → SmrOK Try.prog f s := Γc_ok laws_eqMaster_ok Γ_laws_eqRouteS_ok

end Go.Proofs.Ytfeiaibdnnhlaaa
