import Derived.Test.Ytfeiaibdnnhlaaag6
/- Runs of decisions. -/
set_option linter.unusedVariables false
set_option linter.unusedSimpArgs false
namespace Go.Proofs.Ytfeiaibdnnhlaaa

def dcosts (ds : List Decision) : Nat := (ds.map fun d => d.begun.key.size).sum
/- laws.szDecisionS -/

def laws_szDecisionS_B5 {R : Type} (N : Nat) (rec : List (List PV) → Int → Int → Option R) (a : List (List PV)) (left : Int) (i : Int) (k1 : Int → Option R) (k2 : Int → Option R) : Option R :=
  br (decide (i < (a.length : Int)))
  (getC a i fun x1 =>
   dInt .i64 x1 fun n3 r2 => dInt .i64 r2 fun n5 r4 => dInt .i64 r4 fun n7 r6 => dInt .i64 r6 fun n9 r8 => dStr r8 fun s11 r10 => dInt .i64 r10 fun n13 r12 => dInt .i64 r12 fun n15 r14 => dInt .i64 r14 fun n17 r16 =>
   chk (Nat.beq x1.length 8)
   (chk (decide (0 ≤ left) && decide (left ≤ 1048576))
    (chk (decide (s11.size ≤ 140737488355328))
     (br (decide ((szRes left s11.size) < 0))
      (k1 (-1))
      (rec a (szRes left s11.size) (IntKind.i64.wrap (i + 1)))))))
  (k2 left)

def laws_szDecisionS_L5 {R : Type} (N : Nat) (k1 : Int → Option R) (k2 : Int → Option R) : Nat → List (List PV) → Int → Int → Option R
  | 0, _, _, _ => none
  | M + 1, a, left, i => laws_szDecisionS_B5 N (laws_szDecisionS_L5 N k1 k2 M) a left i k1 k2

def laws_szDecisionS_L5_x (e : Ex) : List Nat := (fun e => match e with
    | .normal => []
    | .exit id => match Nat.beq id 0 with | true => [1] | false => []
    | .ret => [4]) e

def laws_szDecisionS_C5 (N : Nat) : CC := ⟨Γ_laws_FnExactApplyDecision, Λ0, Δ0, Μ0⟩

theorem laws_szDecisionS_C5_Γ (N : Nat) : ∀ f s, (laws_szDecisionS_C5 N).Γ f = some s → SmrOK Try.prog f s := Γ_laws_FnExactApplyDecision_ok

theorem laws_szDecisionS_C5_Λ (N : Nat) : ∀ b ∈ loopsIn (lpF Try.f15 0), ∀ s, (laws_szDecisionS_C5 N).Λ (lid b) = some s → LOK Try.prog 27 0 b s :=
  LOKs_of (bs := []) (by kernel_rfl) LOKs_n

theorem laws_szDecisionS_B5_eq {R : Type} (N : Nat) (rec : TL → List AB → Option R) (a : List (List PV)) (left : Int) (i : Int) (k : Ex → TL → List AB → Option R) :
    (crun tt (laws_szDecisionS_C5 N) 27 (lpF Try.f15 0)) [(0, .d (.ls a)), (1, .d (.int .i64 left)), (5, .d (.int .i64 i))] [] (lnext 27 0 [] [0, 1, 5] rec (lexit 27 0 laws_szDecisionS_L5_x k)) =
    laws_szDecisionS_B5 N (fun a left i => rec [(0, .d (.ls a)), (1, .d (.int .i64 left)), (5, .d (.int .i64 i))] []) a left i (fun v => k (.ret) [(4, .d (.int .i64 v))] []) (fun left => k (.exit 0) [(1, .d (.int .i64 left))] []) := by kernel_rfl

theorem laws_szDecisionS_L5_eq {R : Type} (N : Nat) (k : Ex → TL → List AB → Option R) : ∀ (M : Nat) (a : List (List PV)) (left : Int) (i : Int), loopG 27 0 [] (crun tt (laws_szDecisionS_C5 N) 27 (lpF Try.f15 0)) [0, 1, 5] (lexit 27 0 laws_szDecisionS_L5_x k) M [(0, .d (.ls a)), (1, .d (.int .i64 left)), (5, .d (.int .i64 i))] [] =
    laws_szDecisionS_L5 N (fun v => k (.ret) [(4, .d (.int .i64 v))] []) (fun left => k (.exit 0) [(1, .d (.int .i64 left))] []) M a left i
  | 0, _, _, _ => rfl
  | M + 1, a, left, i => (laws_szDecisionS_B5_eq N (loopG 27 0 [] (crun tt (laws_szDecisionS_C5 N) 27 (lpF Try.f15 0)) [0, 1, 5] (lexit 27 0 laws_szDecisionS_L5_x k) M) a left i k).trans (congrArg (fun rec => laws_szDecisionS_B5 N rec a left i (fun v => k (.ret) [(4, .d (.int .i64 v))] []) (fun left => k (.exit 0) [(1, .d (.int .i64 left))] [])) (funext fun a => (funext fun left => (funext fun i => laws_szDecisionS_L5_eq N k M a left i))))

def laws_szDecisionS_L5_s (N : Nat) : LSum := fun R l m k => gcf 27 0 [] [0, 1, 5] l m fun l2 m2 => match l2, m2 with
  | [(z1, .d (.ls a)), (z2, .d (.int .i64 left)), (z3, .d (.int .i64 i))], [] => chk (Nat.beq z1 0 && Nat.beq z2 1 && Nat.beq z3 5) (laws_szDecisionS_L5 N (fun v => k (.ret) [(4, .d (.int .i64 v))] []) (fun left => k (.exit 0) [(1, .d (.int .i64 left))] []) N a left i)
  | _, _ => none

theorem laws_szDecisionS_L5_ok (N : Nat) : LOK Try.prog 27 0 (lpF Try.f15 0) (laws_szDecisionS_L5_s N) := by
  refine (lsum_ok tt_ok mixed (laws_szDecisionS_C5_Γ N) (laws_szDecisionS_C5_Λ N) [] [0, 1, 5] laws_szDecisionS_L5_x N).of ?_
  intro R l m k r h
  unfold laws_szDecisionS_L5_s at h
  refine gcf_mono ?_ h
  intro l2 m2 h
  split at h
  · obtain ⟨hc, h⟩ := chk_eq h
    simp only [Bool.and_eq_true, Nat.beq_eq_true_eq] at hc
    obtain ⟨⟨rfl, rfl⟩, rfl⟩ := hc
    rw [laws_szDecisionS_L5_eq]
    exact h
  · cases h

def laws_szDecisionS_c {R : Type} (N : Nat) (xs : List (List PV)) (left : Int) (k : AV → List AB → Option R) : Option R :=
  br (decide ((IntKind.i64.wrap (left - (xs.length : Int))) < 0))
  (k (.d (.int .i64 (-1))) [])
  (laws_szDecisionS_L5 N (fun v =>
    k (.d (.int .i64 v)) [])
   (fun left =>
    k (.d (.int .i64 left)) []) N xs (IntKind.i64.wrap (left - (xs.length : Int))) 0)

def laws_szDecisionS_C (N : Nat) : CC := ⟨Γ_laws_FnExactApplyDecision, (Λc 5 (laws_szDecisionS_L5_s N) Λ0), Δ0, Μ0⟩

theorem laws_szDecisionS_C_Γ (N : Nat) : ∀ f s, (laws_szDecisionS_C N).Γ f = some s → SmrOK Try.prog f s := Γ_laws_FnExactApplyDecision_ok

theorem laws_szDecisionS_C_Λ (N : Nat) : ∀ c, Try.f15.body = some c → ∀ b ∈ loopsIn c, ∀ s, (laws_szDecisionS_C N).Λ (lid b) = some s → LOK Try.prog Try.f15.ntmps 0 b s :=
  LOKs_ofF (bs := [(lpF Try.f15 0)]) (by kernel_rfl) (LOKs_c (l := laws_szDecisionS_L5_s N) (by kernel_rfl) (laws_szDecisionS_L5_ok N) LOKs_n)

theorem laws_szDecisionS_run {R : Type} (N : Nat) (xs : List (List PV)) (left : Int) (k : AV → List AB → Option R) :
    cfunN tt (laws_szDecisionS_C N) Try.f15 0 [.d (.ls xs), .d (.int .i64 left)] [] k = laws_szDecisionS_c N xs left k := by kernel_rfl

theorem szDecisionS_loop {R : Type} (N : Nat) (ds : List Decision) (hl : ds.length ≤ 140737488355328) (hs : ∀ d ∈ ds, d.begun.key.size ≤ 140737488355328) (k1 k2 : Int → Option R) : ∀ (M i : Nat) (left : Int), i ≤ ds.length → ds.length < i + M → 0 ≤ left → left ≤ 1048576 →
    laws_szDecisionS_L5 N k1 k2 M (ds.map Decision.pv) left (i : Int) = if (dcosts (ds.drop i) : Int) ≤ left then k2 (left - dcosts (ds.drop i)) else k1 (-1)
  | 0, i, left, h1, h2, _, _ => by omega
  | M + 1, i, left, h1, h2, h3, h4 => by
    simp only [laws_szDecisionS_L5, laws_szDecisionS_B5, bnd, List.length_map]
    by_cases h : i < ds.length
    · have hd : dcosts (ds.drop i) = ds[i].begun.key.size + dcosts (ds.drop (i + 1)) := by rw [List.drop_eq_getElem_cons h]; simp only [dcosts, List.map_cons, List.sum_cons]
      have hr := hs ds[i] (List.getElem_mem _)
      rw [lt_t h, br_t, getC_map h]
      simp only [Route.pv, Iv.pv, Decision.pv, Plan.pv, dInt_c, dStr_c, List.length_cons, List.length_nil, Nat.zero_add, Nat.reduceAdd, chk_beq, chk_t, br_t, br_f, bi_s, unRoutes_map, unIvs_map, unDecs_map, h3, h4, hr, decide_true, Bool.and_self]
      by_cases h5 : szRes left ds[i].begun.key.size < 0
      · have := szRes_neg h3 h5
        rw [decide_eq_true h5, br_t, if_neg (by omega)]
      · obtain ⟨h6, h7⟩ := szRes_pos h5
        rw [decide_eq_false h5, br_f, wrap_s (by omega), szDecisionS_loop N ds hl hs k1 k2 M (i + 1) _ (by omega) (by omega) (by omega) (by omega), h7]
        by_cases h8 : (dcosts (ds.drop i) : Int) ≤ left
        · rw [if_pos h8, if_pos (by omega)]; congr 1; omega
        · rw [if_neg h8, if_neg (by omega)]
    · have : ds.drop i = [] := List.drop_of_length_le (by omega)
      rw [lt_f h, br_f, this, if_pos (by simpa [dcosts] using h3)]
      simp [dcosts]
theorem laws_szDecisionS_ceq {R : Type} (N : Nat) (left : Int) (ds : List Decision) (k : AV → List AB → Option R) (hN : ds.length + 1 ≤ N) (hp1 : (decide (0 ≤ left) && decide (left ≤ 1048576)) = true) (hp2 : (decide (ds.length ≤ 140737488355328)) = true) (hp3 : (ds.all (fun d => decide (d.begun.key.size ≤ 140737488355328))) = true) :
    laws_szDecisionS_c N (ds.map Decision.pv) left k = k (.d (.int .i64 (szRes left (ds.length + dcosts ds)))) [] := by
  simp only [decide_eq_true_eq, Bool.and_eq_true, List.all_eq_true] at hp1 hp2 hp3
  simp only [laws_szDecisionS_c, List.length_map, wrap_id (n := left - (ds.length : Int)) (by omega) (by omega)]
  by_cases h1 : left - (ds.length : Int) < 0
  · rw [decide_eq_true h1, br_t, szRes_no (by omega)]
  · rw [decide_eq_false h1, br_f]
    have := szDecisionS_loop N ds hp2 hp3 (fun v => k (.d (.int .i64 v)) []) (fun v => k (.d (.int .i64 v)) []) N 0 (left - ds.length) (by omega) (by omega) (by omega) (by omega)
    refine this.trans ?_
    simp only [List.drop_zero]
    by_cases h2 : (dcosts ds : Int) ≤ left - ds.length
    · rw [if_pos h2, szRes_yes (by omega)]; congr 3; omega
    · rw [if_neg h2, szRes_no (by omega)]
def laws_szDecisionS_sm : Smr := ⟨[false, false], fun R args mem k => match nilAVs args, mem with
  | [.d (.ls xs), .d (.int .i64 left)], [] => bi (unDecs xs) fun ds => chk (decide (0 ≤ left) && decide (left ≤ 1048576)) (chk (decide (ds.length ≤ 140737488355328)) (chk (ds.all (fun d => decide (d.begun.key.size ≤ 140737488355328))) (k (.d (.int .i64 (szRes left (ds.length + dcosts ds)))) [])))
  | _, _ => none⟩

theorem laws_szDecisionS_ok : SmrOK Try.prog 15 laws_szDecisionS_sm := by
  intro R args mem k r h
  simp only [laws_szDecisionS_sm] at h
  generalize hA : nilAVs args = args' at h
  split at h
  · rename_i xs left
    obtain ⟨ds, hd0, h1⟩ := bi_eq h
    have hd0 := unDecs_eq hd0
    subst hd0
    obtain ⟨hp1, h2⟩ := chk_eq h1
    obtain ⟨hp2, h3⟩ := chk_eq h2
    obtain ⟨hp3, h4⟩ := chk_eq h3
    replace h := h4
    refine ⟨_, _, Spec.nl hA (spec_of_run tt_ok mixed (laws_szDecisionS_C_Γ (ds.length + 1)) Try.func15 (by kernel_rfl) (mem := []) (Nat.le_of_ble_eq_true (by kernel_rfl)) (laws_szDecisionS_C_Λ (ds.length + 1)) ((laws_szDecisionS_run (ds.length + 1) (ds.map Decision.pv) left _).trans ((laws_szDecisionS_ceq (ds.length + 1) left ds _ (Nat.le_refl _) hp1 hp2 hp3).trans ?_))), h⟩
    rfl
  · cases h

def Γ_laws_szDecisionS : FuncId → Option Smr := Γc 15 laws_szDecisionS_sm Γ_laws_FnExactApplyDecision
theorem Γ_laws_szDecisionS_ok : ∀ f s, Γ_laws_szDecisionS f = some s → SmrOK Try.prog f s := Γc_ok laws_szDecisionS_ok Γ_laws_FnExactApplyDecision_ok


def zDec : Decision := ⟨0, noPlan⟩
/- laws.toDecisionS -/

def laws_toDecisionS_B3 {R : Type} (N : Nat) (rec : List (List PV) → Int → List (List PV) → Option R) (a : List (List PV)) (i : Int) (c0 : List (List PV)) (k1 : List (List PV) → Option R) : Option R :=
  br (decide (i < (a.length : Int)))
  (getC a i fun x1 =>
   dInt .i64 x1 fun n3 r2 => dInt .i64 r2 fun n5 r4 => dInt .i64 r4 fun n7 r6 => dInt .i64 r6 fun n9 r8 => dStr r8 fun s11 r10 => dInt .i64 r10 fun n13 r12 => dInt .i64 r12 fun n15 r14 => dInt .i64 r14 fun n17 r16 =>
   chk (Nat.beq x1.length 8)
   (chk (decide (0 ≤ i) && decide (i < (c0.length : Int)))
    (getN c0 i.toNat fun x18 =>
     chk (decide (8 ≤ x18.length))
     (bnd ((((((((c0.set i.toNat (x18.set 0 (.int .i64 n3))).set i.toNat ((x18.set 0 (.int .i64 n3)).set 1 (.int .i64 n5))).set i.toNat (((x18.set 0 (.int .i64 n3)).set 1 (.int .i64 n5)).set 2 (.int .i64 n7))).set i.toNat ((((x18.set 0 (.int .i64 n3)).set 1 (.int .i64 n5)).set 2 (.int .i64 n7)).set 3 (.int .i64 n9))).set i.toNat (((((x18.set 0 (.int .i64 n3)).set 1 (.int .i64 n5)).set 2 (.int .i64 n7)).set 3 (.int .i64 n9)).set 4 (.str s11))).set i.toNat ((((((x18.set 0 (.int .i64 n3)).set 1 (.int .i64 n5)).set 2 (.int .i64 n7)).set 3 (.int .i64 n9)).set 4 (.str s11)).set 5 (.int .i64 n13))).set i.toNat (((((((x18.set 0 (.int .i64 n3)).set 1 (.int .i64 n5)).set 2 (.int .i64 n7)).set 3 (.int .i64 n9)).set 4 (.str s11)).set 5 (.int .i64 n13)).set 6 (.int .i64 n15))).set i.toNat ((((((((x18.set 0 (.int .i64 n3)).set 1 (.int .i64 n5)).set 2 (.int .i64 n7)).set 3 (.int .i64 n9)).set 4 (.str s11)).set 5 (.int .i64 n13)).set 6 (.int .i64 n15)).set 7 (.int .i64 n17))) fun y19 =>
      rec a (IntKind.i64.wrap (i + 1)) y19))))
  (k1 c0)

def laws_toDecisionS_L3 {R : Type} (N : Nat) (k1 : List (List PV) → Option R) : Nat → List (List PV) → Int → List (List PV) → Option R
  | 0, _, _, _ => none
  | M + 1, a, i, c0 => laws_toDecisionS_B3 N (laws_toDecisionS_L3 N k1 M) a i c0 k1

def laws_toDecisionS_L3_x (e : Ex) : List Nat := (fun e => match e with
    | .normal => []
    | .exit id => match Nat.beq id 0 with | true => [3] | false => []
    | .ret => []) e

def laws_toDecisionS_C3 (N : Nat) : CC := ⟨Γ_laws_szDecisionS, Λ0, Δ0, Μ0⟩

theorem laws_toDecisionS_C3_Γ (N : Nat) : ∀ f s, (laws_toDecisionS_C3 N).Γ f = some s → SmrOK Try.prog f s := Γ_laws_szDecisionS_ok

theorem laws_toDecisionS_C3_Λ (N : Nat) : ∀ b ∈ loopsIn (lpF Try.f17 0), ∀ s, (laws_toDecisionS_C3 N).Λ (lid b) = some s → LOK Try.prog 23 0 b s :=
  LOKs_of (bs := []) (by kernel_rfl) LOKs_n

theorem laws_toDecisionS_B3_eq {R : Type} (N : Nat) (rec : TL → List AB → Option R) (a : List (List PV)) (i : Int) (c0 : List (List PV)) (k : Ex → TL → List AB → Option R) :
    (crun tt (laws_toDecisionS_C3 N) 23 (lpF Try.f17 0)) [(0, .d (.ls a)), (3, .sl 0), (4, .d (.int .i64 i))] [.ar 8 0 c0] (lnext 23 0 [] [0, 3, 4] rec (lexit 23 0 laws_toDecisionS_L3_x k)) =
    laws_toDecisionS_B3 N (fun a i c0 => rec [(0, .d (.ls a)), (3, .sl 0), (4, .d (.int .i64 i))] [.ar 8 0 c0]) a i c0 (fun c0 => k (.exit 0) [(3, .sl 0)] [.ar 8 0 c0]) := by kernel_rfl

theorem laws_toDecisionS_L3_eq {R : Type} (N : Nat) (k : Ex → TL → List AB → Option R) : ∀ (M : Nat) (a : List (List PV)) (i : Int) (c0 : List (List PV)), loopG 23 0 [] (crun tt (laws_toDecisionS_C3 N) 23 (lpF Try.f17 0)) [0, 3, 4] (lexit 23 0 laws_toDecisionS_L3_x k) M [(0, .d (.ls a)), (3, .sl 0), (4, .d (.int .i64 i))] [.ar 8 0 c0] =
    laws_toDecisionS_L3 N (fun c0 => k (.exit 0) [(3, .sl 0)] [.ar 8 0 c0]) M a i c0
  | 0, _, _, _ => rfl
  | M + 1, a, i, c0 => (laws_toDecisionS_B3_eq N (loopG 23 0 [] (crun tt (laws_toDecisionS_C3 N) 23 (lpF Try.f17 0)) [0, 3, 4] (lexit 23 0 laws_toDecisionS_L3_x k) M) a i c0 k).trans (congrArg (fun rec => laws_toDecisionS_B3 N rec a i c0 (fun c0 => k (.exit 0) [(3, .sl 0)] [.ar 8 0 c0])) (funext fun a => (funext fun i => (funext fun c0 => laws_toDecisionS_L3_eq N k M a i c0))))

def laws_toDecisionS_L3_s (N : Nat) : LSum := fun R l m k => gcf 23 0 [] [0, 3, 4] l m fun l2 m2 => match l2, m2 with
  | [(z1, .d (.ls a)), (z2, .sl z3), (z4, .d (.int .i64 i))], [.ar z5 z6 c0] => chk (Nat.beq z1 0 && Nat.beq z2 3 && Nat.beq z3 0 && Nat.beq z4 4 && Nat.beq z5 8 && Nat.beq z6 0) (laws_toDecisionS_L3 N (fun c0 => k (.exit 0) [(3, .sl 0)] [.ar 8 0 c0]) N a i c0)
  | _, _ => none

theorem laws_toDecisionS_L3_ok (N : Nat) : LOK Try.prog 23 0 (lpF Try.f17 0) (laws_toDecisionS_L3_s N) := by
  refine (lsum_ok tt_ok mixed (laws_toDecisionS_C3_Γ N) (laws_toDecisionS_C3_Λ N) [] [0, 3, 4] laws_toDecisionS_L3_x N).of ?_
  intro R l m k r h
  unfold laws_toDecisionS_L3_s at h
  refine gcf_mono ?_ h
  intro l2 m2 h
  split at h
  · obtain ⟨hc, h⟩ := chk_eq h
    simp only [Bool.and_eq_true, Nat.beq_eq_true_eq] at hc
    obtain ⟨⟨⟨⟨⟨rfl, rfl⟩, rfl⟩, rfl⟩, rfl⟩, rfl⟩ := hc
    rw [laws_toDecisionS_L3_eq]
    exact h
  · cases h

def laws_toDecisionS_c {R : Type} (N : Nat) (xs : List (List PV)) (k : AV → List AB → Option R) : Option R :=
  chk (decide (0 ≤ (xs.length : Int)) && decide ((xs.length : Int) ≤ (xs.length : Int)) && decide ((xs.length : Int) * 72 ≤ 140737488355328) && decide ((xs.length : Int) ≤ 140737488355328))
  (laws_toDecisionS_L3 N (fun c0 =>
    k (.sl 0) [.ar 8 0 c0]) N xs 0 (List.replicate ((xs.length : Int).toNat) [.int .i64 0, .int .i64 0, .int .i64 0, .int .i64 0, .str ⟨#[]⟩, .int .i64 0, .int .i64 0, .int .i64 0]))

def laws_toDecisionS_C (N : Nat) : CC := ⟨Γ_laws_szDecisionS, (Λc 3 (laws_toDecisionS_L3_s N) Λ0), Δ0, Μ0⟩

theorem laws_toDecisionS_C_Γ (N : Nat) : ∀ f s, (laws_toDecisionS_C N).Γ f = some s → SmrOK Try.prog f s := Γ_laws_szDecisionS_ok

theorem laws_toDecisionS_C_Λ (N : Nat) : ∀ c, Try.f17.body = some c → ∀ b ∈ loopsIn c, ∀ s, (laws_toDecisionS_C N).Λ (lid b) = some s → LOK Try.prog Try.f17.ntmps 0 b s :=
  LOKs_ofF (bs := [(lpF Try.f17 0)]) (by kernel_rfl) (LOKs_c (l := laws_toDecisionS_L3_s N) (by kernel_rfl) (laws_toDecisionS_L3_ok N) LOKs_n)

theorem laws_toDecisionS_run {R : Type} (N : Nat) (xs : List (List PV)) (k : AV → List AB → Option R) :
    cfunN tt (laws_toDecisionS_C N) Try.f17 0 [.d (.ls xs)] [] k = laws_toDecisionS_c N xs k := by kernel_rfl

theorem toDecisionS_loop {R : Type} (N : Nat) (rs : List Decision) (hl : rs.length ≤ 1048576) (k1 : List (List PV) → Option R) : ∀ (M i : Nat) (us : List Decision), i ≤ rs.length → rs.length < i + M → us.length = rs.length → us.take i = rs.take i →
    laws_toDecisionS_L3 N k1 M (rs.map Decision.pv) (i : Int) (us.map Decision.pv) = k1 (rs.map Decision.pv)
  | 0, i, us, h1, h2, _, _ => by omega
  | M + 1, i, us, h1, h2, h3, h4 => by
    simp only [laws_toDecisionS_L3, laws_toDecisionS_B3, bnd, List.length_map]
    by_cases h : i < rs.length
    · rw [lt_t h, br_t, getC_map h]
      simp only [Route.pv, Iv.pv, Decision.pv, Plan.pv, dInt_c, dStr_c, List.length_cons, List.length_nil, Nat.zero_add, Nat.reduceAdd, chk_beq, chk_t, br_t, br_f, bi_s, unRoutes_map, unIvs_map, unDecs_map]
      rw [decide_eq_true (show (0 : Int) ≤ i by omega), lt_t (show i < us.length by omega)]
      simp only [Bool.and_self, chk_t, Int.toNat_natCast]
      rw [getN_map (by omega)]
      simp only [List.length_cons, List.length_nil, Nat.zero_add, Nat.reduceAdd, Nat.le_refl, decide_true, chk_t, List.set_set, wrap_s (show i < 4611686018427387904 by omega)]
      have e : (us.map Decision.pv).set i (rs[i].pv) = (us.set i rs[i]).map Decision.pv := by rw [List.map_set]
      refine Eq.trans ?_ (toDecisionS_loop N rs hl k1 M (i + 1) (us.set i rs[i]) (by omega) (by omega) (by simpa using h3) ?_)
      · rw [← e]; rfl
      · rw [List.take_succ_eq_append_getElem (by simp; omega), List.take_succ_eq_append_getElem h, List.take_set_of_le (Nat.le_refl _), h4]
        simp
    · have : us = rs := by rw [List.take_of_length_le (by omega), List.take_of_length_le (by omega)] at h4; exact h4
      rw [lt_f h, br_f, this]
theorem laws_toDecisionS_ceq {R : Type} (N : Nat) (ds : List Decision) (k : AV → List AB → Option R) (hN : ds.length + 1 ≤ N) (hp1 : (decide (ds.length ≤ 1048576)) = true) :
    laws_toDecisionS_c N (ds.map Decision.pv) k = k (.sl 0) [.ar 8 0 (ds.map Decision.pv)] := by
  simp only [decide_eq_true_eq] at hp1
  simp only [laws_toDecisionS_c, List.length_map]
  rw [decide_eq_true (show (0 : Int) ≤ ds.length by omega), decide_eq_true (show (ds.length : Int) ≤ ds.length by omega), decide_eq_true (show (ds.length : Int) * 72 ≤ 140737488355328 by omega), decide_eq_true (show (ds.length : Int) ≤ 140737488355328 by omega)]
  simp only [Bool.and_self, chk_t, Int.toNat_natCast]
  have e : List.replicate ds.length [PV.int .i64 0, .int .i64 0, .int .i64 0, .int .i64 0, .str ⟨#[]⟩, .int .i64 0, .int .i64 0, .int .i64 0] = (List.replicate ds.length zDec).map Decision.pv := by simp [zDec, noPlan, Decision.pv, Plan.pv]
  rw [e]
  exact toDecisionS_loop N ds hp1 _ N 0 _ (by omega) (by omega) (by simp) rfl
def laws_toDecisionS_sm : Smr := ⟨[false], fun R args mem k => match nilAVs args, mem with
  | [.d (.ls xs)], [] => bi (unDecs xs) fun ds => chk (decide (ds.length ≤ 1048576)) (k (.sl 0) [.ar 8 0 (ds.map Decision.pv)])
  | _, _ => none⟩

theorem laws_toDecisionS_ok : SmrOK Try.prog 17 laws_toDecisionS_sm := by
  intro R args mem k r h
  simp only [laws_toDecisionS_sm] at h
  generalize hA : nilAVs args = args' at h
  split at h
  · rename_i xs
    obtain ⟨ds, hd0, h1⟩ := bi_eq h
    have hd0 := unDecs_eq hd0
    subst hd0
    obtain ⟨hp1, h2⟩ := chk_eq h1
    replace h := h2
    refine ⟨_, _, Spec.nl hA (spec_of_run tt_ok mixed (laws_toDecisionS_C_Γ (ds.length + 1)) Try.func17 (by kernel_rfl) (mem := []) (Nat.le_of_ble_eq_true (by kernel_rfl)) (laws_toDecisionS_C_Λ (ds.length + 1)) ((laws_toDecisionS_run (ds.length + 1) (ds.map Decision.pv) _).trans ((laws_toDecisionS_ceq (ds.length + 1) ds _ (Nat.le_refl _) hp1).trans ?_))), h⟩
    rfl
  · cases h

def Γ_laws_toDecisionS : FuncId → Option Smr := Γc 17 laws_toDecisionS_sm Γ_laws_szDecisionS
theorem Γ_laws_toDecisionS_ok : ∀ f s, Γ_laws_toDecisionS f = some s → SmrOK Try.prog f s := Γc_ok laws_toDecisionS_ok Γ_laws_szDecisionS_ok


/- laws.eqDecision -/

def laws_eqDecision_c {R : Type} (N : Nat) (dk : Int) (pk : Int) (pf : Int) (ps : Int) (pb : ByteArray) (pr : Int) (pt : Int) (pe : Int) (ek : Int) (qk : Int) (qf : Int) (qs : Int) (qb : ByteArray) (qr : Int) (qt : Int) (qe : Int) (k : AV → List AB → Option R) : Option R :=
  br (dk != ek)
  (k (.d (.bool false)) [])
  (br (!(decide (Plan.mk pk pf ps pb pr pt pe = Plan.mk qk qf qs qb qr qt qe)))
   (k (.d (.bool false)) [])
   (k (.d (.bool true)) []))

def laws_eqDecision_C (N : Nat) : CC := ⟨Γ_laws_toDecisionS, Λ0, Δ0, Μ0⟩

theorem laws_eqDecision_C_Γ (N : Nat) : ∀ f s, (laws_eqDecision_C N).Γ f = some s → SmrOK Try.prog f s := Γ_laws_toDecisionS_ok

theorem laws_eqDecision_C_Λ (N : Nat) : ∀ c, Try.f52.body = some c → ∀ b ∈ loopsIn c, ∀ s, (laws_eqDecision_C N).Λ (lid b) = some s → LOK Try.prog Try.f52.ntmps 0 b s :=
  LOKs_ofF (bs := []) (by kernel_rfl) LOKs_n

theorem laws_eqDecision_run {R : Type} (N : Nat) (dk : Int) (pk : Int) (pf : Int) (ps : Int) (pb : ByteArray) (pr : Int) (pt : Int) (pe : Int) (ek : Int) (qk : Int) (qf : Int) (qs : Int) (qb : ByteArray) (qr : Int) (qt : Int) (qe : Int) (k : AV → List AB → Option R) :
    cfunN tt (laws_eqDecision_C N) Try.f52 0 [.agg [.d (.int .i64 dk), .d (.int .i64 pk), .d (.int .i64 pf), .d (.int .i64 ps), .d (.str pb), .d (.int .i64 pr), .d (.int .i64 pt), .d (.int .i64 pe)], .agg [.d (.int .i64 ek), .d (.int .i64 qk), .d (.int .i64 qf), .d (.int .i64 qs), .d (.str qb), .d (.int .i64 qr), .d (.int .i64 qt), .d (.int .i64 qe)]] [] k = laws_eqDecision_c N dk pk pf ps pb pr pt pe ek qk qf qs qb qr qt qe k := by kernel_rfl

theorem laws_eqDecision_ceq {R : Type} (N : Nat) (dk : Int) (pk : Int) (pf : Int) (ps : Int) (pb : ByteArray) (pr : Int) (pt : Int) (pe : Int) (ek : Int) (qk : Int) (qf : Int) (qs : Int) (qb : ByteArray) (qr : Int) (qt : Int) (qe : Int) (k : AV → List AB → Option R) :
    laws_eqDecision_c N dk pk pf ps pb pr pt pe ek qk qf qs qb qr qt qe k = k (.d (.bool (decide (Decision.mk dk ⟨pk, pf, ps, pb, pr, pt, pe⟩ = Decision.mk ek ⟨qk, qf, qs, qb, qr, qt, qe⟩)))) [] := by
  simp only [laws_eqDecision_c, br_kb, br_not]
  congr 3
  by_cases h1 : dk = ek <;> by_cases h2 : Plan.mk pk pf ps pb pr pt pe = Plan.mk qk qf qs qb qr qt qe <;> simp [h1, h2]
def laws_eqDecision_sm : Smr := ⟨[false, false], fun R args mem k => match nilAVs args, mem with
  | [.agg [.d (.int .i64 dk), .d (.int .i64 pk), .d (.int .i64 pf), .d (.int .i64 ps), .d (.str pb), .d (.int .i64 pr), .d (.int .i64 pt), .d (.int .i64 pe)], .agg [.d (.int .i64 ek), .d (.int .i64 qk), .d (.int .i64 qf), .d (.int .i64 qs), .d (.str qb), .d (.int .i64 qr), .d (.int .i64 qt), .d (.int .i64 qe)]], [] => k (.d (.bool (decide (Decision.mk dk ⟨pk, pf, ps, pb, pr, pt, pe⟩ = Decision.mk ek ⟨qk, qf, qs, qb, qr, qt, qe⟩)))) []
  | _, _ => none⟩

theorem laws_eqDecision_ok : SmrOK Try.prog 52 laws_eqDecision_sm := by
  intro R args mem k r h
  simp only [laws_eqDecision_sm] at h
  generalize hA : nilAVs args = args' at h
  split at h
  · rename_i dk pk pf ps pb pr pt pe ek qk qf qs qb qr qt qe
    refine ⟨_, _, Spec.nl hA (spec_of_run tt_ok mixed (laws_eqDecision_C_Γ 0) Try.func52 (by kernel_rfl) (mem := []) (Nat.le_of_ble_eq_true (by kernel_rfl)) (laws_eqDecision_C_Λ 0) ((laws_eqDecision_run 0 dk pk pf ps pb pr pt pe ek qk qf qs qb qr qt qe _).trans ((laws_eqDecision_ceq 0 dk pk pf ps pb pr pt pe ek qk qf qs qb qr qt qe _).trans ?_))), h⟩
    rfl
  · cases h

def Γ_laws_eqDecision : FuncId → Option Smr := Γc 52 laws_eqDecision_sm Γ_laws_toDecisionS
theorem Γ_laws_eqDecision_ok : ∀ f s, Γ_laws_eqDecision f = some s → SmrOK Try.prog f s := Γc_ok laws_eqDecision_ok Γ_laws_toDecisionS_ok


/- laws.eqDecisionS -/

def laws_eqDecisionS_B4 {R : Type} (N : Nat) (rec : List (List PV) → List (List PV) → Int → Option R) (a : List (List PV)) (b : List (List PV)) (i : Int) (k1 : Bool → Option R) (k2 : Option R) : Option R :=
  br (decide (i < (a.length : Int)))
  (getC a i fun x1 =>
   dInt .i64 x1 fun n3 r2 => dInt .i64 r2 fun n5 r4 => dInt .i64 r4 fun n7 r6 => dInt .i64 r6 fun n9 r8 => dStr r8 fun s11 r10 => dInt .i64 r10 fun n13 r12 => dInt .i64 r12 fun n15 r14 => dInt .i64 r14 fun n17 r16 =>
   chk (Nat.beq x1.length 8)
   (getC b i fun x18 =>
    dInt .i64 x18 fun n20 r19 => dInt .i64 r19 fun n22 r21 => dInt .i64 r21 fun n24 r23 => dInt .i64 r23 fun n26 r25 => dStr r25 fun s28 r27 => dInt .i64 r27 fun n30 r29 => dInt .i64 r29 fun n32 r31 => dInt .i64 r31 fun n34 r33 =>
    chk (Nat.beq x18.length 8)
    (br (!(decide (Decision.mk n3 ⟨n5, n7, n9, s11, n13, n15, n17⟩ = Decision.mk n20 ⟨n22, n24, n26, s28, n30, n32, n34⟩)))
     (k1 false)
     (rec a b (IntKind.i64.wrap (i + 1))))))
  (k2 )

def laws_eqDecisionS_L4 {R : Type} (N : Nat) (k1 : Bool → Option R) (k2 : Option R) : Nat → List (List PV) → List (List PV) → Int → Option R
  | 0, _, _, _ => none
  | M + 1, a, b, i => laws_eqDecisionS_B4 N (laws_eqDecisionS_L4 N k1 k2 M) a b i k1 k2

def laws_eqDecisionS_L4_x (e : Ex) : List Nat := (fun e => match e with
    | .normal => []
    | .exit id => match Nat.beq id 0 with | true => [] | false => []
    | .ret => [4]) e

def laws_eqDecisionS_dr6 : List DI := [⟨0, 0, [18, 21, 22, 23, 24], [], 1⟩, ⟨1, 0, [17, 21, 22, 23, 24], [], 1⟩, ⟨2, 3, [21, 22, 23, 24], [], 1⟩, ⟨3, 7, [21, 22, 23, 24], [], 1⟩, ⟨4, 0, [17, 18, 19, 20, 22], [], 1⟩, ⟨5, 0, [17, 18, 19, 20, 21], [], 1⟩, ⟨6, 48, [17, 18, 19, 20], [], 1⟩, ⟨7, 112, [17, 18, 19, 20], [], 1⟩, ⟨8, 255, [], [], 0⟩, ⟨9, 511, [], [], 1⟩]

def laws_eqDecisionS_C4 (N : Nat) : CC := ⟨Γ_laws_eqDecision, Λ0, (Δc 6 laws_eqDecisionS_dr6 Δ0), Μ0⟩

theorem laws_eqDecisionS_C4_Γ (N : Nat) : ∀ f s, (laws_eqDecisionS_C4 N).Γ f = some s → SmrOK Try.prog f s := Γ_laws_eqDecision_ok

theorem laws_eqDecisionS_C4_Λ (N : Nat) : ∀ b ∈ loopsIn (lpF Try.f19 0), ∀ s, (laws_eqDecisionS_C4 N).Λ (lid b) = some s → LOK Try.prog 27 0 b s :=
  LOKs_of (bs := []) (by kernel_rfl) LOKs_n

theorem laws_eqDecisionS_B4_eq {R : Type} (N : Nat) (rec : TL → List AB → Option R) (a : List (List PV)) (b : List (List PV)) (i : Int) (k : Ex → TL → List AB → Option R) :
    (crun tt (laws_eqDecisionS_C4 N) 27 (lpF Try.f19 0)) [(0, .d (.ls a)), (1, .d (.ls b)), (5, .d (.int .i64 i))] [] (lnext 27 0 [] [0, 1, 5] rec (lexit 27 0 laws_eqDecisionS_L4_x k)) =
    laws_eqDecisionS_B4 N (fun a b i => rec [(0, .d (.ls a)), (1, .d (.ls b)), (5, .d (.int .i64 i))] []) a b i (fun v => k (.ret) [(4, .d (.bool v))] []) (k (.exit 0) [] []) := by kernel_rfl

theorem laws_eqDecisionS_L4_eq {R : Type} (N : Nat) (k : Ex → TL → List AB → Option R) : ∀ (M : Nat) (a : List (List PV)) (b : List (List PV)) (i : Int), loopG 27 0 [] (crun tt (laws_eqDecisionS_C4 N) 27 (lpF Try.f19 0)) [0, 1, 5] (lexit 27 0 laws_eqDecisionS_L4_x k) M [(0, .d (.ls a)), (1, .d (.ls b)), (5, .d (.int .i64 i))] [] =
    laws_eqDecisionS_L4 N (fun v => k (.ret) [(4, .d (.bool v))] []) (k (.exit 0) [] []) M a b i
  | 0, _, _, _ => rfl
  | M + 1, a, b, i => (laws_eqDecisionS_B4_eq N (loopG 27 0 [] (crun tt (laws_eqDecisionS_C4 N) 27 (lpF Try.f19 0)) [0, 1, 5] (lexit 27 0 laws_eqDecisionS_L4_x k) M) a b i k).trans (congrArg (fun rec => laws_eqDecisionS_B4 N rec a b i (fun v => k (.ret) [(4, .d (.bool v))] []) (k (.exit 0) [] [])) (funext fun a => (funext fun b => (funext fun i => laws_eqDecisionS_L4_eq N k M a b i))))

def laws_eqDecisionS_L4_s (N : Nat) : LSum := fun R l m k => gcf 27 0 [] [0, 1, 5] l m fun l2 m2 => match l2, m2 with
  | [(z1, .d (.ls a)), (z2, .d (.ls b)), (z3, .d (.int .i64 i))], [] => chk (Nat.beq z1 0 && Nat.beq z2 1 && Nat.beq z3 5) (laws_eqDecisionS_L4 N (fun v => k (.ret) [(4, .d (.bool v))] []) (k (.exit 0) [] []) N a b i)
  | _, _ => none

theorem laws_eqDecisionS_L4_ok (N : Nat) : LOK Try.prog 27 0 (lpF Try.f19 0) (laws_eqDecisionS_L4_s N) := by
  refine (lsum_ok tt_ok mixed (laws_eqDecisionS_C4_Γ N) (laws_eqDecisionS_C4_Λ N) [] [0, 1, 5] laws_eqDecisionS_L4_x N).of ?_
  intro R l m k r h
  unfold laws_eqDecisionS_L4_s at h
  refine gcf_mono ?_ h
  intro l2 m2 h
  split at h
  · obtain ⟨hc, h⟩ := chk_eq h
    simp only [Bool.and_eq_true, Nat.beq_eq_true_eq] at hc
    obtain ⟨⟨rfl, rfl⟩, rfl⟩ := hc
    rw [laws_eqDecisionS_L4_eq]
    exact h
  · cases h

def laws_eqDecisionS_c {R : Type} (N : Nat) (xs : List (List PV)) (ys : List (List PV)) (k : AV → List AB → Option R) : Option R :=
  br ((xs.length : Int) != (ys.length : Int))
  (k (.d (.bool false)) [])
  (laws_eqDecisionS_L4 N (fun v =>
    k (.d (.bool v)) [])
   (k (.d (.bool true)) []) N xs ys 0)

def laws_eqDecisionS_C (N : Nat) : CC := ⟨Γ_laws_eqDecision, (Λc 4 (laws_eqDecisionS_L4_s N) Λ0), (Δc 6 laws_eqDecisionS_dr6 Δ0), Μ0⟩

theorem laws_eqDecisionS_C_Γ (N : Nat) : ∀ f s, (laws_eqDecisionS_C N).Γ f = some s → SmrOK Try.prog f s := Γ_laws_eqDecision_ok

theorem laws_eqDecisionS_C_Λ (N : Nat) : ∀ c, Try.f19.body = some c → ∀ b ∈ loopsIn c, ∀ s, (laws_eqDecisionS_C N).Λ (lid b) = some s → LOK Try.prog Try.f19.ntmps 0 b s :=
  LOKs_ofF (bs := [(lpF Try.f19 0)]) (by kernel_rfl) (LOKs_c (l := laws_eqDecisionS_L4_s N) (by kernel_rfl) (laws_eqDecisionS_L4_ok N) LOKs_n)

theorem laws_eqDecisionS_run {R : Type} (N : Nat) (xs : List (List PV)) (ys : List (List PV)) (k : AV → List AB → Option R) :
    cfunN tt (laws_eqDecisionS_C N) Try.f19 0 [.d (.ls xs), .d (.ls ys)] [] k = laws_eqDecisionS_c N xs ys k := by kernel_rfl

theorem eqDecisionS_loop {R : Type} (N : Nat) (rs qs : List Decision) (hl : rs.length ≤ 1048576) (he : rs.length = qs.length) (k1 : Bool → Option R) (k2 : Option R) : ∀ (M i : Nat), i ≤ rs.length → rs.length < i + M → rs.take i = qs.take i →
    laws_eqDecisionS_L4 N k1 k2 M (rs.map Decision.pv) (qs.map Decision.pv) (i : Int) = if rs = qs then k2 else k1 false
  | 0, i, h1, h2, _ => by omega
  | M + 1, i, h1, h2, h3 => by
    simp only [laws_eqDecisionS_L4, laws_eqDecisionS_B4, bnd, List.length_map]
    by_cases h : i < rs.length
    · rw [lt_t h, br_t, getC_map h]
      simp only [Route.pv, Iv.pv, Decision.pv, Plan.pv, dInt_c, dStr_c, List.length_cons, List.length_nil, Nat.zero_add, Nat.reduceAdd, chk_beq, chk_t, br_t, br_f, bi_s, unRoutes_map, unIvs_map, unDecs_map]
      rw [getC_map (by omega)]
      simp only [Route.pv, Iv.pv, Decision.pv, Plan.pv, dInt_c, dStr_c, List.length_cons, List.length_nil, Nat.zero_add, Nat.reduceAdd, chk_beq, chk_t, br_t, br_f, bi_s, unRoutes_map, unIvs_map, unDecs_map]
      by_cases h5 : rs[i] = qs[i]
      · rw [h5]
        simp only [decide_true, Bool.not_true, br_f, wrap_s (show i < 4611686018427387904 by omega)]
        exact eqDecisionS_loop N rs qs hl he k1 k2 M (i + 1) (by omega) (by omega) (take_step h3 (by omega) (by omega) h5)
      · rw [if_neg (ne_at (by omega) (by omega) h5), decide_eq_false (fun e => h5 e)]
        rfl
    · rw [lt_f h, br_f, if_pos (take_done h3 (by omega) he)]
theorem laws_eqDecisionS_ceq {R : Type} (N : Nat) (ds : List Decision) (es : List Decision) (k : AV → List AB → Option R) (hN : ds.length + 1 ≤ N) (hp1 : (decide (ds.length ≤ 1048576)) = true) (hp2 : (decide (es.length ≤ 1048576)) = true) :
    laws_eqDecisionS_c N (ds.map Decision.pv) (es.map Decision.pv) k = k (.d (.bool (decide (ds = es)))) [] := by
  simp only [decide_eq_true_eq] at hp1 hp2
  simp only [laws_eqDecisionS_c, List.length_map]
  by_cases h : ds.length = es.length
  · have h1 : ((ds.length : Int) != (es.length : Int)) = false := by simp [h]
    rw [h1, br_f]
    refine (eqDecisionS_loop N ds es hp1 h _ _ N 0 (by omega) (by omega) rfl).trans ?_
    by_cases h2 : ds = es <;> simp [h2]
  · have h1 : ((ds.length : Int) != (es.length : Int)) = true := by simp; omega
    have h2 : ¬ ds = es := fun e => h (by rw [e])
    rw [h1, br_t, decide_eq_false h2]
def laws_eqDecisionS_sm : Smr := ⟨[false, false], fun R args mem k => match nilAVs args, mem with
  | [.d (.ls xs), .d (.ls ys)], [] => bi (unDecs xs) fun ds => bi (unDecs ys) fun es => chk (decide (ds.length ≤ 1048576)) (chk (decide (es.length ≤ 1048576)) (k (.d (.bool (decide (ds = es)))) []))
  | _, _ => none⟩

theorem laws_eqDecisionS_ok : SmrOK Try.prog 19 laws_eqDecisionS_sm := by
  intro R args mem k r h
  simp only [laws_eqDecisionS_sm] at h
  generalize hA : nilAVs args = args' at h
  split at h
  · rename_i xs ys
    obtain ⟨ds, hd0, h1⟩ := bi_eq h
    have hd0 := unDecs_eq hd0
    subst hd0
    obtain ⟨es, hd1, h2⟩ := bi_eq h1
    have hd1 := unDecs_eq hd1
    subst hd1
    obtain ⟨hp1, h3⟩ := chk_eq h2
    obtain ⟨hp2, h4⟩ := chk_eq h3
    replace h := h4
    refine ⟨_, _, Spec.nl hA (spec_of_run tt_ok mixed (laws_eqDecisionS_C_Γ (ds.length + 1)) Try.func19 (by kernel_rfl) (mem := []) (Nat.le_of_ble_eq_true (by kernel_rfl)) (laws_eqDecisionS_C_Λ (ds.length + 1)) ((laws_eqDecisionS_run (ds.length + 1) (ds.map Decision.pv) (es.map Decision.pv) _).trans ((laws_eqDecisionS_ceq (ds.length + 1) ds es _ (Nat.le_refl _) hp1 hp2).trans ?_))), h⟩
    rfl
  · cases h

def Γ_laws_eqDecisionS : FuncId → Option Smr := Γc 19 laws_eqDecisionS_sm Γ_laws_eqDecision
theorem Γ_laws_eqDecisionS_ok : ∀ f s, Γ_laws_eqDecisionS f = some s → SmrOK Try.prog f s := Γc_ok laws_eqDecisionS_ok Γ_laws_eqDecision_ok


def markD (v : Int) : Decision := ⟨v, ⟨v + 1, v + 2, v + 3, markT (v + 4), v + 5, v + 6, v + 7⟩⟩
def markDs : List Decision → Int → List Decision
  | [], _ => []
  | _ :: l, v => markD v :: markDs l (v + 8)
theorem markDs_len : ∀ (l : List Decision) (v : Int), (markDs l v).length = l.length
  | [], _ => rfl
  | _ :: l, v => by simp only [markDs, List.length_cons, markDs_len l]
theorem dget_at {R : Type} (d : List Decision) (x : Decision) (r : List Decision) (k : List PV → Option R) : getN ((d ++ x :: r).map Decision.pv) d.length k = k x.pv := by
  rw [getN_map (by simp)]; simp
theorem dset (d : List Decision) (x : Decision) (r : List Decision) (y : Decision) {c : List PV} (h : c = y.pv) : ((d ++ x :: r).map Decision.pv).set d.length c = (d ++ y :: r).map Decision.pv := by
  subst h; rw [← List.map_set, set_at]
theorem dset0 (d : List Decision) (x : Decision) (r : List Decision) (n : Int) : ((d ++ x :: r).map Decision.pv).set d.length (x.pv.set 0 (.int .i64 n)) = (d ++ { x with kind := n } :: r).map Decision.pv := dset d x r _ rfl
theorem dset1 (d : List Decision) (x : Decision) (r : List Decision) (n : Int) : ((d ++ x :: r).map Decision.pv).set d.length (x.pv.set 1 (.int .i64 n)) = (d ++ { x with begun := { x.begun with kind := n } } :: r).map Decision.pv := dset d x r _ rfl
theorem dset2 (d : List Decision) (x : Decision) (r : List Decision) (n : Int) : ((d ++ x :: r).map Decision.pv).set d.length (x.pv.set 2 (.int .i64 n)) = (d ++ { x with begun := { x.begun with first := n } } :: r).map Decision.pv := dset d x r _ rfl
theorem dset3 (d : List Decision) (x : Decision) (r : List Decision) (n : Int) : ((d ++ x :: r).map Decision.pv).set d.length (x.pv.set 3 (.int .i64 n)) = (d ++ { x with begun := { x.begun with second := n } } :: r).map Decision.pv := dset d x r _ rfl
theorem dset4 (d : List Decision) (x : Decision) (r : List Decision) (n : ByteArray) : ((d ++ x :: r).map Decision.pv).set d.length (x.pv.set 4 (.str n)) = (d ++ { x with begun := { x.begun with key := n } } :: r).map Decision.pv := dset d x r _ rfl
theorem dset5 (d : List Decision) (x : Decision) (r : List Decision) (n : Int) : ((d ++ x :: r).map Decision.pv).set d.length (x.pv.set 5 (.int .i64 n)) = (d ++ { x with begun := { x.begun with src := n } } :: r).map Decision.pv := dset d x r _ rfl
theorem dset6 (d : List Decision) (x : Decision) (r : List Decision) (n : Int) : ((d ++ x :: r).map Decision.pv).set d.length (x.pv.set 6 (.int .i64 n)) = (d ++ { x with begun := { x.begun with dst := n } } :: r).map Decision.pv := dset d x r _ rfl
theorem dset7 (d : List Decision) (x : Decision) (r : List Decision) (n : Int) : ((d ++ x :: r).map Decision.pv).set d.length (x.pv.set 7 (.int .i64 n)) = (d ++ { x with begun := { x.begun with step := n } } :: r).map Decision.pv := dset d x r _ rfl
/- laws.markDecisionS -/

def laws_markDecisionS_B2 {R : Type} (N : Nat) (rec : Int → Int → List (List PV) → Option R) (vk : Int) (i : Int) (c0 : List (List PV)) (k1 : Int → List (List PV) → Option R) : Option R :=
  br (decide (i < (c0.length : Int)))
  (chk (decide (0 ≤ i) && decide (i < (c0.length : Int)))
   (getN c0 i.toNat fun x1 =>
    chk (decide (1 ≤ x1.length))
    (chk (decide (0 ≤ i) && decide (i < ((c0.set i.toNat (x1.set 0 (.int .i64 vk))).length : Int)))
     (getN (c0.set i.toNat (x1.set 0 (.int .i64 vk))) i.toNat fun x2 =>
      chk (decide (2 ≤ x2.length))
      (bnd ((c0.set i.toNat (x1.set 0 (.int .i64 vk))).set i.toNat (x2.set 1 (.int .i64 (IntKind.i64.wrap (vk + 1))))) fun y3 =>
       chk (decide (0 ≤ i) && decide (i < (y3.length : Int)))
       (getN y3 i.toNat fun x4 =>
        chk (decide (3 ≤ x4.length))
        (bnd (IntKind.i64.wrap ((IntKind.i64.wrap ((IntKind.i64.wrap (vk + 1)) + 1)) + 1)) fun i5 =>
         chk (decide (0 ≤ i) && decide (i < ((y3.set i.toNat (x4.set 2 (.int .i64 (IntKind.i64.wrap ((IntKind.i64.wrap (vk + 1)) + 1))))).length : Int)))
         (getN (y3.set i.toNat (x4.set 2 (.int .i64 (IntKind.i64.wrap ((IntKind.i64.wrap (vk + 1)) + 1))))) i.toNat fun x6 =>
          chk (decide (4 ≤ x6.length))
          (bnd ((y3.set i.toNat (x4.set 2 (.int .i64 (IntKind.i64.wrap ((IntKind.i64.wrap (vk + 1)) + 1))))).set i.toNat (x6.set 3 (.int .i64 i5))) fun y7 =>
           chk (decide (0 ≤ (IntKind.i64.wrap (i5 + 1))) && decide ((IntKind.i64.wrap (i5 + 1)) ≤ 16777216))
           (chk (decide (0 ≤ i) && decide (i < (y7.length : Int)))
            (getN y7 i.toNat fun x8 =>
             chk (decide (5 ≤ x8.length))
             (chk (decide (0 ≤ i) && decide (i < ((y7.set i.toNat (x8.set 4 (.str (markT (IntKind.i64.wrap (i5 + 1)))))).length : Int)))
              (getN (y7.set i.toNat (x8.set 4 (.str (markT (IntKind.i64.wrap (i5 + 1)))))) i.toNat fun x9 =>
               chk (decide (6 ≤ x9.length))
               (bnd ((y7.set i.toNat (x8.set 4 (.str (markT (IntKind.i64.wrap (i5 + 1)))))).set i.toNat (x9.set 5 (.int .i64 (IntKind.i64.wrap ((IntKind.i64.wrap (i5 + 1)) + 1))))) fun y10 =>
                bnd (IntKind.i64.wrap ((IntKind.i64.wrap ((IntKind.i64.wrap (i5 + 1)) + 1)) + 1)) fun i11 =>
                chk (decide (0 ≤ i) && decide (i < (y10.length : Int)))
                (getN y10 i.toNat fun x12 =>
                 chk (decide (7 ≤ x12.length))
                 (chk (decide (0 ≤ i) && decide (i < ((y10.set i.toNat (x12.set 6 (.int .i64 i11))).length : Int)))
                  (getN (y10.set i.toNat (x12.set 6 (.int .i64 i11))) i.toNat fun x13 =>
                   chk (decide (8 ≤ x13.length))
                   (bnd ((y10.set i.toNat (x12.set 6 (.int .i64 i11))).set i.toNat (x13.set 7 (.int .i64 (IntKind.i64.wrap (i11 + 1))))) fun y14 =>
                    rec (IntKind.i64.wrap ((IntKind.i64.wrap (i11 + 1)) + 1)) (IntKind.i64.wrap (i + 1)) y14))))))))))))))))))
  (k1 vk c0)

def laws_markDecisionS_L2 {R : Type} (N : Nat) (k1 : Int → List (List PV) → Option R) : Nat → Int → Int → List (List PV) → Option R
  | 0, _, _, _ => none
  | M + 1, vk, i, c0 => laws_markDecisionS_B2 N (laws_markDecisionS_L2 N k1 M) vk i c0 k1

def laws_markDecisionS_L2_x (e : Ex) : List Nat := (fun e => match e with
    | .normal => []
    | .exit id => match Nat.beq id 0 with | true => [1] | false => []
    | .ret => []) e

def laws_markDecisionS_C2 (N : Nat) : CC := ⟨Γ_laws_eqDecisionS, Λ0, Δ0, Μ0⟩

theorem laws_markDecisionS_C2_Γ (N : Nat) : ∀ f s, (laws_markDecisionS_C2 N).Γ f = some s → SmrOK Try.prog f s := Γ_laws_eqDecisionS_ok

theorem laws_markDecisionS_C2_Λ (N : Nat) : ∀ b ∈ loopsIn (lpF Try.f20 0), ∀ s, (laws_markDecisionS_C2 N).Λ (lid b) = some s → LOK Try.prog 77 1 b s :=
  LOKs_of (bs := []) (by kernel_rfl) LOKs_n

theorem laws_markDecisionS_B2_eq {R : Type} (N : Nat) (rec : TL → List AB → Option R) (vk : Int) (i : Int) (c0 : List (List PV)) (k : Ex → TL → List AB → Option R) :
    (crun tt (laws_markDecisionS_C2 N) 77 (lpF Try.f20 0)) [(0, .sl 0), (1, .d (.int .i64 vk)), (5, .d (.int .i64 i))] [.ar 8 0 c0] (lnext 77 1 [] [0, 1, 5] rec (lexit 77 1 laws_markDecisionS_L2_x k)) =
    laws_markDecisionS_B2 N (fun vk i c0 => rec [(0, .sl 0), (1, .d (.int .i64 vk)), (5, .d (.int .i64 i))] [.ar 8 0 c0]) vk i c0 (fun vk c0 => k (.exit 0) [(1, .d (.int .i64 vk))] [.ar 8 0 c0]) := by kernel_rfl

theorem laws_markDecisionS_L2_eq {R : Type} (N : Nat) (k : Ex → TL → List AB → Option R) : ∀ (M : Nat) (vk : Int) (i : Int) (c0 : List (List PV)), loopG 77 1 [] (crun tt (laws_markDecisionS_C2 N) 77 (lpF Try.f20 0)) [0, 1, 5] (lexit 77 1 laws_markDecisionS_L2_x k) M [(0, .sl 0), (1, .d (.int .i64 vk)), (5, .d (.int .i64 i))] [.ar 8 0 c0] =
    laws_markDecisionS_L2 N (fun vk c0 => k (.exit 0) [(1, .d (.int .i64 vk))] [.ar 8 0 c0]) M vk i c0
  | 0, _, _, _ => rfl
  | M + 1, vk, i, c0 => (laws_markDecisionS_B2_eq N (loopG 77 1 [] (crun tt (laws_markDecisionS_C2 N) 77 (lpF Try.f20 0)) [0, 1, 5] (lexit 77 1 laws_markDecisionS_L2_x k) M) vk i c0 k).trans (congrArg (fun rec => laws_markDecisionS_B2 N rec vk i c0 (fun vk c0 => k (.exit 0) [(1, .d (.int .i64 vk))] [.ar 8 0 c0])) (funext fun vk => (funext fun i => (funext fun c0 => laws_markDecisionS_L2_eq N k M vk i c0))))

def laws_markDecisionS_L2_s (N : Nat) : LSum := fun R l m k => gcf 77 1 [] [0, 1, 5] l m fun l2 m2 => match l2, m2 with
  | [(z1, .sl z2), (z3, .d (.int .i64 vk)), (z4, .d (.int .i64 i))], [.ar z5 z6 c0] => chk (Nat.beq z1 0 && Nat.beq z2 0 && Nat.beq z3 1 && Nat.beq z4 5 && Nat.beq z5 8 && Nat.beq z6 0) (laws_markDecisionS_L2 N (fun vk c0 => k (.exit 0) [(1, .d (.int .i64 vk))] [.ar 8 0 c0]) N vk i c0)
  | _, _ => none

theorem laws_markDecisionS_L2_ok (N : Nat) : LOK Try.prog 77 1 (lpF Try.f20 0) (laws_markDecisionS_L2_s N) := by
  refine (lsum_ok tt_ok mixed (laws_markDecisionS_C2_Γ N) (laws_markDecisionS_C2_Λ N) [] [0, 1, 5] laws_markDecisionS_L2_x N).of ?_
  intro R l m k r h
  unfold laws_markDecisionS_L2_s at h
  refine gcf_mono ?_ h
  intro l2 m2 h
  split at h
  · obtain ⟨hc, h⟩ := chk_eq h
    simp only [Bool.and_eq_true, Nat.beq_eq_true_eq] at hc
    obtain ⟨⟨⟨⟨⟨rfl, rfl⟩, rfl⟩, rfl⟩, rfl⟩, rfl⟩ := hc
    rw [laws_markDecisionS_L2_eq]
    exact h
  · cases h

def laws_markDecisionS_c {R : Type} (N : Nat) (v : Int) (xs : List (List PV)) (k : AV → List AB → Option R) : Option R :=
  laws_markDecisionS_L2 N (fun vk c0 =>
   k (.d (.int .i64 vk)) [.ar 8 0 c0]) N v 0 xs

def laws_markDecisionS_C (N : Nat) : CC := ⟨Γ_laws_eqDecisionS, (Λc 2 (laws_markDecisionS_L2_s N) Λ0), Δ0, Μ0⟩

theorem laws_markDecisionS_C_Γ (N : Nat) : ∀ f s, (laws_markDecisionS_C N).Γ f = some s → SmrOK Try.prog f s := Γ_laws_eqDecisionS_ok

theorem laws_markDecisionS_C_Λ (N : Nat) : ∀ c, Try.f20.body = some c → ∀ b ∈ loopsIn c, ∀ s, (laws_markDecisionS_C N).Λ (lid b) = some s → LOK Try.prog Try.f20.ntmps 1 b s :=
  LOKs_ofF (bs := [(lpF Try.f20 0)]) (by kernel_rfl) (LOKs_c (l := laws_markDecisionS_L2_s N) (by kernel_rfl) (laws_markDecisionS_L2_ok N) LOKs_n)

theorem laws_markDecisionS_run {R : Type} (N : Nat) (v : Int) (xs : List (List PV)) (k : AV → List AB → Option R) :
    cfunN tt (laws_markDecisionS_C N) Try.f20 1 [.sl 0, .d (.int .i64 v)] [.ar 8 0 xs] k = laws_markDecisionS_c N v xs k := by kernel_rfl

theorem markDecisionS_loop {R : Type} (N : Nat) (k1 : Int → List (List PV) → Option R) : ∀ (M : Nat) (d r : List Decision) (v : Int), d.length + r.length ≤ 1048576 → r.length < M → 0 ≤ v → v + 8 * r.length ≤ 16777216 →
    laws_markDecisionS_L2 N k1 M v d.length ((d ++ r).map Decision.pv) = k1 (v + 8 * (r.length : Int)) ((d ++ markDs r v).map Decision.pv)
  | 0, d, r, v, h1, h2, h3, h4 => by omega
  | M + 1, d, [], v, h1, h2, h3, h4 => by
    simp only [laws_markDecisionS_L2, laws_markDecisionS_B2, bnd, List.length_map, List.append_nil]
    rw [lt_f (by omega), br_f]
    simp [markDs]
  | M + 1, d, x :: r, v, h1, h2, h3, h4 => by
    simp only [List.length_cons] at h1 h2 h4
    have hl : ∀ y : Decision, decide ((d.length : Int) < (((d ++ y :: r).map Decision.pv).length : Int)) = true := fun y => by simp; omega
    have h0 : decide ((0 : Int) ≤ (d.length : Int)) = true := by simp
    have w1 : IntKind.i64.wrap (v + 1) = v + 1 := wrap_id (by omega) (by omega)
    have w2 : IntKind.i64.wrap (v + 1 + 1) = v + 2 := by rw [wrap_id (by omega) (by omega)]; omega
    have w3 : IntKind.i64.wrap (v + 2 + 1) = v + 3 := by rw [wrap_id (by omega) (by omega)]; omega
    have w4 : IntKind.i64.wrap (v + 3 + 1) = v + 4 := by rw [wrap_id (by omega) (by omega)]; omega
    have w5 : IntKind.i64.wrap (v + 4 + 1) = v + 5 := by rw [wrap_id (by omega) (by omega)]; omega
    have w6 : IntKind.i64.wrap (v + 5 + 1) = v + 6 := by rw [wrap_id (by omega) (by omega)]; omega
    have w7 : IntKind.i64.wrap (v + 6 + 1) = v + 7 := by rw [wrap_id (by omega) (by omega)]; omega
    have w8 : IntKind.i64.wrap (v + 7 + 1) = v + 8 := by rw [wrap_id (by omega) (by omega)]; omega
    have b4 : (decide (0 ≤ v + 4) && decide (v + 4 ≤ 16777216)) = true := by simp; omega
    simp only [laws_markDecisionS_L2, laws_markDecisionS_B2, bnd]
    rw [hl, br_t, h0]
    simp only [Bool.and_self, chk_t, lenInt, w1, w2, w3, w4, w5, w6, w7, w8, b4]
    rw [dget_at, Decision.pv_len, dset0]
    simp only [hl, chk_t, Bool.and_self, Nat.reduceLeDiff, decide_true]
    rw [dget_at, Decision.pv_len, dset1]
    simp only [hl, chk_t, Bool.and_self, Nat.reduceLeDiff, decide_true]
    rw [dget_at, Decision.pv_len, dset2]
    simp only [hl, chk_t, Bool.and_self, Nat.reduceLeDiff, decide_true]
    rw [dget_at, Decision.pv_len, dset3]
    simp only [hl, chk_t, Bool.and_self, Nat.reduceLeDiff, decide_true]
    rw [dget_at, Decision.pv_len, dset4]
    simp only [hl, chk_t, Bool.and_self, Nat.reduceLeDiff, decide_true]
    rw [dget_at, Decision.pv_len, dset5]
    simp only [hl, chk_t, Bool.and_self, Nat.reduceLeDiff, decide_true]
    rw [dget_at, Decision.pv_len, dset6]
    simp only [hl, chk_t, Bool.and_self, Nat.reduceLeDiff, decide_true]
    rw [dget_at, Decision.pv_len, dset7]
    simp only [chk_t, Nat.le_refl, decide_true]
    have := markDecisionS_loop N k1 M (d ++ [markD v]) r (v + 8) (by simp; omega) (by omega) (by omega) (by omega)
    simp only [List.append_assoc, List.cons_append, List.nil_append, List.length_append, List.length_cons, List.length_nil, Nat.zero_add] at this
    rw [wrap_s (by omega)]
    refine this.trans ?_
    simp only [markDs, List.length_cons]
    congr 1
    omega
theorem laws_markDecisionS_ceq {R : Type} (N : Nat) (v : Int) (ds : List Decision) (k : AV → List AB → Option R) (hN : ds.length + 1 ≤ N) (hp1 : (decide (ds.length ≤ 1048576)) = true) (hp2 : (decide (0 ≤ v) && decide (v ≤ 100)) = true) :
    laws_markDecisionS_c N v (ds.map Decision.pv) k = k (.d (.int .i64 (v + 8 * (ds.length : Int)))) [.ar 8 0 ((markDs ds v).map Decision.pv)] := by
  simp only [decide_eq_true_eq, Bool.and_eq_true] at hp1 hp2
  exact markDecisionS_loop N _ N [] ds v (by simpa using hp1) (by omega) (by omega) (by omega)
def laws_markDecisionS_sm : Smr := ⟨[true, false], fun R args mem k => match nilAVs args, mem with
  | [.sl z1, .d (.int .i64 v)], [.ar z2 z3 xs] => chk (Nat.beq z1 0 && Nat.beq z2 8 && Nat.beq z3 0) (bi (unDecs xs) fun ds => chk (decide (ds.length ≤ 1048576)) (chk (decide (0 ≤ v) && decide (v ≤ 100)) (k (.d (.int .i64 (v + 8 * (ds.length : Int)))) [.ar 8 0 ((markDs ds v).map Decision.pv)])))
  | _, _ => none⟩

theorem laws_markDecisionS_ok : SmrOK Try.prog 20 laws_markDecisionS_sm := by
  intro R args mem k r h
  simp only [laws_markDecisionS_sm] at h
  generalize hA : nilAVs args = args' at h
  split at h
  · rename_i z1 v z2 z3 xs
    obtain ⟨hc, h1⟩ := chk_eq h
    simp only [Bool.and_eq_true, Nat.beq_eq_true_eq] at hc
    obtain ⟨⟨rfl, rfl⟩, rfl⟩ := hc
    obtain ⟨ds, hd0, h2⟩ := bi_eq h1
    have hd0 := unDecs_eq hd0
    subst hd0
    obtain ⟨hp1, h3⟩ := chk_eq h2
    obtain ⟨hp2, h4⟩ := chk_eq h3
    replace h := h4
    refine ⟨_, _, Spec.nl hA (spec_of_run tt_ok mixed (laws_markDecisionS_C_Γ (ds.length + 1)) Try.func20 (by kernel_rfl) (mem := [.ar 8 0 (ds.map Decision.pv)]) (Nat.le_of_ble_eq_true (by kernel_rfl)) (laws_markDecisionS_C_Λ (ds.length + 1)) ((laws_markDecisionS_run (ds.length + 1) v (ds.map Decision.pv) _).trans ((laws_markDecisionS_ceq (ds.length + 1) v ds _ (Nat.le_refl _) hp1 hp2).trans ?_))), h⟩
    rfl
  · cases h

def Γ_laws_markDecisionS : FuncId → Option Smr := Γc 20 laws_markDecisionS_sm Γ_laws_eqDecisionS
theorem Γ_laws_markDecisionS_ok : ∀ f s, Γ_laws_markDecisionS f = some s → SmrOK Try.prog f s := Γc_ok laws_markDecisionS_ok Γ_laws_eqDecisionS_ok


/- spec.NewMaster -/

def spec_NewMaster_c {R : Type} (N : Nat)  (k : AV → List AB → Option R) : Option R :=
  k (.agg [.sl 0, .d (.int .i64 1), .d (.int .i64 0), .d (.int .i64 0), .d (.int .i64 0), .d (.str ⟨#[]⟩), .d (.int .i64 0), .d (.int .i64 0), .d (.int .i64 0), .d (.int .i64 0)]) [.ar 3 0 ([[.int .i64 0, .str ⟨#[]⟩, .str ⟨#[]⟩]] : List (List PV))]

def spec_NewMaster_C (N : Nat) : CC := ⟨Γ_laws_markDecisionS, Λ0, Δ0, Μ0⟩

theorem spec_NewMaster_C_Γ (N : Nat) : ∀ f s, (spec_NewMaster_C N).Γ f = some s → SmrOK Try.prog f s := Γ_laws_markDecisionS_ok

theorem spec_NewMaster_C_Λ (N : Nat) : ∀ c, Try.f50.body = some c → ∀ b ∈ loopsIn c, ∀ s, (spec_NewMaster_C N).Λ (lid b) = some s → LOK Try.prog Try.f50.ntmps 0 b s :=
  LOKs_ofF (bs := []) (by kernel_rfl) LOKs_n

theorem spec_NewMaster_run {R : Type} (N : Nat)  (k : AV → List AB → Option R) :
    cfunN tt (spec_NewMaster_C N) Try.f50 0 [] [] k = spec_NewMaster_c N  k := by kernel_rfl

theorem spec_NewMaster_ceq {R : Type} (N : Nat)  (k : AV → List AB → Option R) :
    spec_NewMaster_c N  k = k (.agg [.sl 0, .d (.int .i64 1), .d (.int .i64 0), .d (.int .i64 0), .d (.int .i64 0), .d (.str ⟨#[]⟩), .d (.int .i64 0), .d (.int .i64 0), .d (.int .i64 0), .d (.int .i64 0)]) [.ar 3 0 ([zRoute].map Route.pv)] := by
  rfl
def spec_NewMaster_sm : Smr := ⟨[], fun R args mem k => match nilAVs args, mem with
  | [], [] => k (.agg [.sl 0, .d (.int .i64 1), .d (.int .i64 0), .d (.int .i64 0), .d (.int .i64 0), .d (.str ⟨#[]⟩), .d (.int .i64 0), .d (.int .i64 0), .d (.int .i64 0), .d (.int .i64 0)]) [.ar 3 0 ([zRoute].map Route.pv)]
  | _, _ => none⟩

theorem spec_NewMaster_ok : SmrOK Try.prog 50 spec_NewMaster_sm := by
  intro R args mem k r h
  simp only [spec_NewMaster_sm] at h
  generalize hA : nilAVs args = args' at h
  split at h
  · refine ⟨_, _, Spec.nl hA (spec_of_run tt_ok mixed (spec_NewMaster_C_Γ 0) Try.func50 (by kernel_rfl) (mem := []) (Nat.le_of_ble_eq_true (by kernel_rfl)) (spec_NewMaster_C_Λ 0) ((spec_NewMaster_run 0  _).trans ((spec_NewMaster_ceq 0  _).trans ?_))), h⟩
    rfl
  · cases h

def Γ_spec_NewMaster : FuncId → Option Smr := Γc 50 spec_NewMaster_sm Γ_laws_markDecisionS
theorem Γ_spec_NewMaster_ok : ∀ f s, Γ_spec_NewMaster f = some s → SmrOK Try.prog f s := Γc_ok spec_NewMaster_ok Γ_laws_markDecisionS_ok

/- impl.NewMaster -/

def impl_NewMaster_c {R : Type} (N : Nat)  (k : AV → List AB → Option R) : Option R :=
  k (.agg [.sl 0, .d (.int .i64 1), .d (.int .i64 0), .d (.int .i64 0), .d (.int .i64 0), .d (.str ⟨#[]⟩), .d (.int .i64 0), .d (.int .i64 0), .d (.int .i64 0), .d (.int .i64 0)]) [.ar 3 0 ([[.int .i64 0, .str ⟨#[]⟩, .str ⟨#[]⟩]] : List (List PV))]

def impl_NewMaster_C (N : Nat) : CC := ⟨Γ_spec_NewMaster, Λ0, Δ0, Μ0⟩

theorem impl_NewMaster_C_Γ (N : Nat) : ∀ f s, (impl_NewMaster_C N).Γ f = some s → SmrOK Try.prog f s := Γ_spec_NewMaster_ok

theorem impl_NewMaster_C_Λ (N : Nat) : ∀ c, Try.f51.body = some c → ∀ b ∈ loopsIn c, ∀ s, (impl_NewMaster_C N).Λ (lid b) = some s → LOK Try.prog Try.f51.ntmps 0 b s :=
  LOKs_ofF (bs := []) (by kernel_rfl) LOKs_n

theorem impl_NewMaster_run {R : Type} (N : Nat)  (k : AV → List AB → Option R) :
    cfunN tt (impl_NewMaster_C N) Try.f51 0 [] [] k = impl_NewMaster_c N  k := by kernel_rfl

theorem impl_NewMaster_ceq {R : Type} (N : Nat)  (k : AV → List AB → Option R) :
    impl_NewMaster_c N  k = k (.agg [.sl 0, .d (.int .i64 1), .d (.int .i64 0), .d (.int .i64 0), .d (.int .i64 0), .d (.str ⟨#[]⟩), .d (.int .i64 0), .d (.int .i64 0), .d (.int .i64 0), .d (.int .i64 0)]) [.ar 3 0 ([zRoute].map Route.pv)] := by
  rfl
def impl_NewMaster_sm : Smr := ⟨[], fun R args mem k => match nilAVs args, mem with
  | [], [] => k (.agg [.sl 0, .d (.int .i64 1), .d (.int .i64 0), .d (.int .i64 0), .d (.int .i64 0), .d (.str ⟨#[]⟩), .d (.int .i64 0), .d (.int .i64 0), .d (.int .i64 0), .d (.int .i64 0)]) [.ar 3 0 ([zRoute].map Route.pv)]
  | _, _ => none⟩

theorem impl_NewMaster_ok : SmrOK Try.prog 51 impl_NewMaster_sm := by
  intro R args mem k r h
  simp only [impl_NewMaster_sm] at h
  generalize hA : nilAVs args = args' at h
  split at h
  · refine ⟨_, _, Spec.nl hA (spec_of_run tt_ok mixed (impl_NewMaster_C_Γ 0) Try.func51 (by kernel_rfl) (mem := []) (Nat.le_of_ble_eq_true (by kernel_rfl)) (impl_NewMaster_C_Λ 0) ((impl_NewMaster_run 0  _).trans ((impl_NewMaster_ceq 0  _).trans ?_))), h⟩
    rfl
  · cases h

def Γ_impl_NewMaster : FuncId → Option Smr := Γc 51 impl_NewMaster_sm Γ_spec_NewMaster
theorem Γ_impl_NewMaster_ok : ∀ f s, Γ_impl_NewMaster f = some s → SmrOK Try.prog f s := Γc_ok impl_NewMaster_ok Γ_spec_NewMaster_ok


def newMaster : Master := ⟨[zRoute], 1, noPlan, 0⟩
def goDec : Master → List Decision → Option Master
  | m, [] => some m
  | m, d :: ds => if (applyDec m d).2 then goDec (applyDec m d).1 ds else none
def runDec (ds : List Decision) : Master × Bool := if ds.length ≤ 60 then (match goDec newMaster ds with
  | some m => (m, true)
  | none => (zMaster, false)) else (zMaster, false)

/- spec.RunDecisions -/

def spec_RunDecisions_B5 {R : Type} (N : Nat) (rec : List (List PV) → Int → Int → Int → Int → Int → ByteArray → Int → Int → Int → Int → Int → Int → Int → Int → ByteArray → Int → Int → Int → Int → List (List PV) → Option R) (list : List (List PV)) (vk : Int) (c0 : Int) (c0_1 : Int) (c0_2 : Int) (c0_3 : Int) (c0_4 : ByteArray) (c0_5 : Int) (c0_6 : Int) (c0_7 : Int) (c0_8 : Int) (c1 : Int) (c1_1 : Int) (c1_2 : Int) (c1_3 : Int) (c1_4 : ByteArray) (c1_5 : Int) (c1_6 : Int) (c1_7 : Int) (c1_8 : Int) (c2 : List (List PV)) (k1 : Bool → Int → Int → Int → Int → ByteArray → Int → Int → Int → Int → Option R) (k2 : Int → Int → Int → Int → ByteArray → Int → Int → Int → Int → Int → Int → Int → Int → ByteArray → Int → Int → Int → Int → List (List PV) → Option R) : Option R :=
  br (decide (vk < (list.length : Int)))
  (getC list vk fun x1 =>
   dInt .i64 x1 fun n3 r2 => dInt .i64 r2 fun n5 r4 => dInt .i64 r4 fun n7 r6 => dInt .i64 r6 fun n9 r8 => dStr r8 fun s11 r10 => dInt .i64 r10 fun n13 r12 => dInt .i64 r12 fun n15 r14 => dInt .i64 r14 fun n17 r16 =>
   chk (Nat.beq x1.length 8)
   (bi (unRoutes c2) fun rs18 =>
    chk (decide (rs18.length ≤ 1048576))
    (br (!((applyDec ⟨rs18, c1, ⟨c1_1, c1_2, c1_3, c1_4, c1_5, c1_6, c1_7⟩, c1_8⟩ ⟨n3, ⟨n5, n7, n9, s11, n13, n15, n17⟩⟩).2))
     (k1 false 0 0 0 0 ⟨#[]⟩ 0 0 0 0)
     (rec list (IntKind.i64.wrap (vk + 1)) c0 c0_1 c0_2 c0_3 c0_4 c0_5 c0_6 c0_7 c0_8 ((applyDec ⟨rs18, c1, ⟨c1_1, c1_2, c1_3, c1_4, c1_5, c1_6, c1_7⟩, c1_8⟩ ⟨n3, ⟨n5, n7, n9, s11, n13, n15, n17⟩⟩).1.shards) ((applyDec ⟨rs18, c1, ⟨c1_1, c1_2, c1_3, c1_4, c1_5, c1_6, c1_7⟩, c1_8⟩ ⟨n3, ⟨n5, n7, n9, s11, n13, n15, n17⟩⟩).1.work.kind) ((applyDec ⟨rs18, c1, ⟨c1_1, c1_2, c1_3, c1_4, c1_5, c1_6, c1_7⟩, c1_8⟩ ⟨n3, ⟨n5, n7, n9, s11, n13, n15, n17⟩⟩).1.work.first) ((applyDec ⟨rs18, c1, ⟨c1_1, c1_2, c1_3, c1_4, c1_5, c1_6, c1_7⟩, c1_8⟩ ⟨n3, ⟨n5, n7, n9, s11, n13, n15, n17⟩⟩).1.work.second) ((applyDec ⟨rs18, c1, ⟨c1_1, c1_2, c1_3, c1_4, c1_5, c1_6, c1_7⟩, c1_8⟩ ⟨n3, ⟨n5, n7, n9, s11, n13, n15, n17⟩⟩).1.work.key) ((applyDec ⟨rs18, c1, ⟨c1_1, c1_2, c1_3, c1_4, c1_5, c1_6, c1_7⟩, c1_8⟩ ⟨n3, ⟨n5, n7, n9, s11, n13, n15, n17⟩⟩).1.work.src) ((applyDec ⟨rs18, c1, ⟨c1_1, c1_2, c1_3, c1_4, c1_5, c1_6, c1_7⟩, c1_8⟩ ⟨n3, ⟨n5, n7, n9, s11, n13, n15, n17⟩⟩).1.work.dst) ((applyDec ⟨rs18, c1, ⟨c1_1, c1_2, c1_3, c1_4, c1_5, c1_6, c1_7⟩, c1_8⟩ ⟨n3, ⟨n5, n7, n9, s11, n13, n15, n17⟩⟩).1.work.step) ((applyDec ⟨rs18, c1, ⟨c1_1, c1_2, c1_3, c1_4, c1_5, c1_6, c1_7⟩, c1_8⟩ ⟨n3, ⟨n5, n7, n9, s11, n13, n15, n17⟩⟩).1.turn) ((applyDec ⟨rs18, c1, ⟨c1_1, c1_2, c1_3, c1_4, c1_5, c1_6, c1_7⟩, c1_8⟩ ⟨n3, ⟨n5, n7, n9, s11, n13, n15, n17⟩⟩).1.routes.map Route.pv)))))
  (k2 c0 c0_1 c0_2 c0_3 c0_4 c0_5 c0_6 c0_7 c0_8 c1 c1_1 c1_2 c1_3 c1_4 c1_5 c1_6 c1_7 c1_8 c2)

def spec_RunDecisions_L5 {R : Type} (N : Nat) (k1 : Bool → Int → Int → Int → Int → ByteArray → Int → Int → Int → Int → Option R) (k2 : Int → Int → Int → Int → ByteArray → Int → Int → Int → Int → Int → Int → Int → Int → ByteArray → Int → Int → Int → Int → List (List PV) → Option R) : Nat → List (List PV) → Int → Int → Int → Int → Int → ByteArray → Int → Int → Int → Int → Int → Int → Int → Int → ByteArray → Int → Int → Int → Int → List (List PV) → Option R
  | 0, _, _, _, _, _, _, _, _, _, _, _, _, _, _, _, _, _, _, _, _, _ => none
  | M + 1, list, vk, c0, c0_1, c0_2, c0_3, c0_4, c0_5, c0_6, c0_7, c0_8, c1, c1_1, c1_2, c1_3, c1_4, c1_5, c1_6, c1_7, c1_8, c2 => spec_RunDecisions_B5 N (spec_RunDecisions_L5 N k1 k2 M) list vk c0 c0_1 c0_2 c0_3 c0_4 c0_5 c0_6 c0_7 c0_8 c1 c1_1 c1_2 c1_3 c1_4 c1_5 c1_6 c1_7 c1_8 c2 k1 k2

def spec_RunDecisions_L5_x (e : Ex) : List Nat := (fun e => match e with
    | .normal => []
    | .exit id => match Nat.beq id 0 with | true => [2, 4] | false => []
    | .ret => [2, 3]) e

def spec_RunDecisions_dr7 : List DI := [⟨0, 0, [6, 21, 22, 23, 24], [], 2⟩, ⟨1, 0, [6, 20, 22], [], 2⟩, ⟨2, 0, [6, 20, 21], [], 2⟩, ⟨3, 6, [6, 20], [], 2⟩, ⟨4, 14, [6, 20], [], 2⟩, ⟨5, 31, [6], [], 0⟩, ⟨6, 63, [6], [], 2⟩, ⟨7, 127, [6, 27], [], 2⟩, ⟨8, 127, [6, 26], [], 2⟩, ⟨9, 0, [19, 20, 21, 22, 23, 24, 25, 26, 27], [], 1⟩, ⟨10, 767, [27], [], 2⟩, ⟨11, 2047, [], [], 2⟩]

def spec_RunDecisions_C5 (N : Nat) : CC := ⟨Γ_impl_NewMaster, Λ0, (Δc 7 spec_RunDecisions_dr7 Δ0), Μ0⟩

theorem spec_RunDecisions_C5_Γ (N : Nat) : ∀ f s, (spec_RunDecisions_C5 N).Γ f = some s → SmrOK Try.prog f s := Γ_impl_NewMaster_ok

theorem spec_RunDecisions_C5_Λ (N : Nat) : ∀ b ∈ loopsIn (lpF Try.f16 0), ∀ s, (spec_RunDecisions_C5 N).Λ (lid b) = some s → LOK Try.prog 33 0 b s :=
  LOKs_of (bs := []) (by kernel_rfl) LOKs_n

theorem spec_RunDecisions_B5_eq {R : Type} (N : Nat) (rec : TL → List AB → Option R) (list : List (List PV)) (vk : Int) (c0 : Int) (c0_1 : Int) (c0_2 : Int) (c0_3 : Int) (c0_4 : ByteArray) (c0_5 : Int) (c0_6 : Int) (c0_7 : Int) (c0_8 : Int) (c1 : Int) (c1_1 : Int) (c1_2 : Int) (c1_3 : Int) (c1_4 : ByteArray) (c1_5 : Int) (c1_6 : Int) (c1_7 : Int) (c1_8 : Int) (c2 : List (List PV)) (k : Ex → TL → List AB → Option R) :
    (crun tt (spec_RunDecisions_C5 N) 33 (lpF Try.f16 0)) [(0, .d (.ls list)), (2, .ref 0 0), (4, .ref 1 0), (5, .d (.int .i64 vk))] [.sv [.nil, .d (.int .i64 c0), .d (.int .i64 c0_1), .d (.int .i64 c0_2), .d (.int .i64 c0_3), .d (.str c0_4), .d (.int .i64 c0_5), .d (.int .i64 c0_6), .d (.int .i64 c0_7), .d (.int .i64 c0_8)], .sv [.sl 2, .d (.int .i64 c1), .d (.int .i64 c1_1), .d (.int .i64 c1_2), .d (.int .i64 c1_3), .d (.str c1_4), .d (.int .i64 c1_5), .d (.int .i64 c1_6), .d (.int .i64 c1_7), .d (.int .i64 c1_8)], .ar 3 0 c2] (lnext 33 0 [] [0, 2, 4, 5] rec (lexit 33 0 spec_RunDecisions_L5_x k)) =
    spec_RunDecisions_B5 N (fun list vk c0 c0_1 c0_2 c0_3 c0_4 c0_5 c0_6 c0_7 c0_8 c1 c1_1 c1_2 c1_3 c1_4 c1_5 c1_6 c1_7 c1_8 c2 => rec [(0, .d (.ls list)), (2, .ref 0 0), (4, .ref 1 0), (5, .d (.int .i64 vk))] [.sv [.nil, .d (.int .i64 c0), .d (.int .i64 c0_1), .d (.int .i64 c0_2), .d (.int .i64 c0_3), .d (.str c0_4), .d (.int .i64 c0_5), .d (.int .i64 c0_6), .d (.int .i64 c0_7), .d (.int .i64 c0_8)], .sv [.sl 2, .d (.int .i64 c1), .d (.int .i64 c1_1), .d (.int .i64 c1_2), .d (.int .i64 c1_3), .d (.str c1_4), .d (.int .i64 c1_5), .d (.int .i64 c1_6), .d (.int .i64 c1_7), .d (.int .i64 c1_8)], .ar 3 0 c2]) list vk c0 c0_1 c0_2 c0_3 c0_4 c0_5 c0_6 c0_7 c0_8 c1 c1_1 c1_2 c1_3 c1_4 c1_5 c1_6 c1_7 c1_8 c2 (fun v c0 c0_1 c0_2 c0_3 c0_4 c0_5 c0_6 c0_7 c0_8 => k (.ret) [(2, .ref 0 0), (3, .d (.bool v))] [.sv [.nil, .d (.int .i64 c0), .d (.int .i64 c0_1), .d (.int .i64 c0_2), .d (.int .i64 c0_3), .d (.str c0_4), .d (.int .i64 c0_5), .d (.int .i64 c0_6), .d (.int .i64 c0_7), .d (.int .i64 c0_8)]]) (fun c0 c0_1 c0_2 c0_3 c0_4 c0_5 c0_6 c0_7 c0_8 c1 c1_1 c1_2 c1_3 c1_4 c1_5 c1_6 c1_7 c1_8 c2 => k (.exit 0) [(2, .ref 0 0), (4, .ref 1 0)] [.sv [.nil, .d (.int .i64 c0), .d (.int .i64 c0_1), .d (.int .i64 c0_2), .d (.int .i64 c0_3), .d (.str c0_4), .d (.int .i64 c0_5), .d (.int .i64 c0_6), .d (.int .i64 c0_7), .d (.int .i64 c0_8)], .sv [.sl 2, .d (.int .i64 c1), .d (.int .i64 c1_1), .d (.int .i64 c1_2), .d (.int .i64 c1_3), .d (.str c1_4), .d (.int .i64 c1_5), .d (.int .i64 c1_6), .d (.int .i64 c1_7), .d (.int .i64 c1_8)], .ar 3 0 c2]) := by kernel_rfl

theorem spec_RunDecisions_L5_eq {R : Type} (N : Nat) (k : Ex → TL → List AB → Option R) : ∀ (M : Nat) (list : List (List PV)) (vk : Int) (c0 : Int) (c0_1 : Int) (c0_2 : Int) (c0_3 : Int) (c0_4 : ByteArray) (c0_5 : Int) (c0_6 : Int) (c0_7 : Int) (c0_8 : Int) (c1 : Int) (c1_1 : Int) (c1_2 : Int) (c1_3 : Int) (c1_4 : ByteArray) (c1_5 : Int) (c1_6 : Int) (c1_7 : Int) (c1_8 : Int) (c2 : List (List PV)), loopG 33 0 [] (crun tt (spec_RunDecisions_C5 N) 33 (lpF Try.f16 0)) [0, 2, 4, 5] (lexit 33 0 spec_RunDecisions_L5_x k) M [(0, .d (.ls list)), (2, .ref 0 0), (4, .ref 1 0), (5, .d (.int .i64 vk))] [.sv [.nil, .d (.int .i64 c0), .d (.int .i64 c0_1), .d (.int .i64 c0_2), .d (.int .i64 c0_3), .d (.str c0_4), .d (.int .i64 c0_5), .d (.int .i64 c0_6), .d (.int .i64 c0_7), .d (.int .i64 c0_8)], .sv [.sl 2, .d (.int .i64 c1), .d (.int .i64 c1_1), .d (.int .i64 c1_2), .d (.int .i64 c1_3), .d (.str c1_4), .d (.int .i64 c1_5), .d (.int .i64 c1_6), .d (.int .i64 c1_7), .d (.int .i64 c1_8)], .ar 3 0 c2] =
    spec_RunDecisions_L5 N (fun v c0 c0_1 c0_2 c0_3 c0_4 c0_5 c0_6 c0_7 c0_8 => k (.ret) [(2, .ref 0 0), (3, .d (.bool v))] [.sv [.nil, .d (.int .i64 c0), .d (.int .i64 c0_1), .d (.int .i64 c0_2), .d (.int .i64 c0_3), .d (.str c0_4), .d (.int .i64 c0_5), .d (.int .i64 c0_6), .d (.int .i64 c0_7), .d (.int .i64 c0_8)]]) (fun c0 c0_1 c0_2 c0_3 c0_4 c0_5 c0_6 c0_7 c0_8 c1 c1_1 c1_2 c1_3 c1_4 c1_5 c1_6 c1_7 c1_8 c2 => k (.exit 0) [(2, .ref 0 0), (4, .ref 1 0)] [.sv [.nil, .d (.int .i64 c0), .d (.int .i64 c0_1), .d (.int .i64 c0_2), .d (.int .i64 c0_3), .d (.str c0_4), .d (.int .i64 c0_5), .d (.int .i64 c0_6), .d (.int .i64 c0_7), .d (.int .i64 c0_8)], .sv [.sl 2, .d (.int .i64 c1), .d (.int .i64 c1_1), .d (.int .i64 c1_2), .d (.int .i64 c1_3), .d (.str c1_4), .d (.int .i64 c1_5), .d (.int .i64 c1_6), .d (.int .i64 c1_7), .d (.int .i64 c1_8)], .ar 3 0 c2]) M list vk c0 c0_1 c0_2 c0_3 c0_4 c0_5 c0_6 c0_7 c0_8 c1 c1_1 c1_2 c1_3 c1_4 c1_5 c1_6 c1_7 c1_8 c2
  | 0, _, _, _, _, _, _, _, _, _, _, _, _, _, _, _, _, _, _, _, _, _ => rfl
  | M + 1, list, vk, c0, c0_1, c0_2, c0_3, c0_4, c0_5, c0_6, c0_7, c0_8, c1, c1_1, c1_2, c1_3, c1_4, c1_5, c1_6, c1_7, c1_8, c2 => (spec_RunDecisions_B5_eq N (loopG 33 0 [] (crun tt (spec_RunDecisions_C5 N) 33 (lpF Try.f16 0)) [0, 2, 4, 5] (lexit 33 0 spec_RunDecisions_L5_x k) M) list vk c0 c0_1 c0_2 c0_3 c0_4 c0_5 c0_6 c0_7 c0_8 c1 c1_1 c1_2 c1_3 c1_4 c1_5 c1_6 c1_7 c1_8 c2 k).trans (congrArg (fun rec => spec_RunDecisions_B5 N rec list vk c0 c0_1 c0_2 c0_3 c0_4 c0_5 c0_6 c0_7 c0_8 c1 c1_1 c1_2 c1_3 c1_4 c1_5 c1_6 c1_7 c1_8 c2 (fun v c0 c0_1 c0_2 c0_3 c0_4 c0_5 c0_6 c0_7 c0_8 => k (.ret) [(2, .ref 0 0), (3, .d (.bool v))] [.sv [.nil, .d (.int .i64 c0), .d (.int .i64 c0_1), .d (.int .i64 c0_2), .d (.int .i64 c0_3), .d (.str c0_4), .d (.int .i64 c0_5), .d (.int .i64 c0_6), .d (.int .i64 c0_7), .d (.int .i64 c0_8)]]) (fun c0 c0_1 c0_2 c0_3 c0_4 c0_5 c0_6 c0_7 c0_8 c1 c1_1 c1_2 c1_3 c1_4 c1_5 c1_6 c1_7 c1_8 c2 => k (.exit 0) [(2, .ref 0 0), (4, .ref 1 0)] [.sv [.nil, .d (.int .i64 c0), .d (.int .i64 c0_1), .d (.int .i64 c0_2), .d (.int .i64 c0_3), .d (.str c0_4), .d (.int .i64 c0_5), .d (.int .i64 c0_6), .d (.int .i64 c0_7), .d (.int .i64 c0_8)], .sv [.sl 2, .d (.int .i64 c1), .d (.int .i64 c1_1), .d (.int .i64 c1_2), .d (.int .i64 c1_3), .d (.str c1_4), .d (.int .i64 c1_5), .d (.int .i64 c1_6), .d (.int .i64 c1_7), .d (.int .i64 c1_8)], .ar 3 0 c2])) (funext fun list => (funext fun vk => (funext fun c0 => (funext fun c0_1 => (funext fun c0_2 => (funext fun c0_3 => (funext fun c0_4 => (funext fun c0_5 => (funext fun c0_6 => (funext fun c0_7 => (funext fun c0_8 => (funext fun c1 => (funext fun c1_1 => (funext fun c1_2 => (funext fun c1_3 => (funext fun c1_4 => (funext fun c1_5 => (funext fun c1_6 => (funext fun c1_7 => (funext fun c1_8 => (funext fun c2 => spec_RunDecisions_L5_eq N k M list vk c0 c0_1 c0_2 c0_3 c0_4 c0_5 c0_6 c0_7 c0_8 c1 c1_1 c1_2 c1_3 c1_4 c1_5 c1_6 c1_7 c1_8 c2))))))))))))))))))))))

def spec_RunDecisions_L5_s (N : Nat) : LSum := fun R l m k => gcf 33 0 [] [0, 2, 4, 5] l m fun l2 m2 => match l2, m2 with
  | [(z1, .d (.ls list)), (z2, .ref z3 z4), (z5, .ref z6 z7), (z8, .d (.int .i64 vk))], [.sv [.nil, .d (.int .i64 c0), .d (.int .i64 c0_1), .d (.int .i64 c0_2), .d (.int .i64 c0_3), .d (.str c0_4), .d (.int .i64 c0_5), .d (.int .i64 c0_6), .d (.int .i64 c0_7), .d (.int .i64 c0_8)], .sv [.sl z9, .d (.int .i64 c1), .d (.int .i64 c1_1), .d (.int .i64 c1_2), .d (.int .i64 c1_3), .d (.str c1_4), .d (.int .i64 c1_5), .d (.int .i64 c1_6), .d (.int .i64 c1_7), .d (.int .i64 c1_8)], .ar z10 z11 c2] => chk (Nat.beq z1 0 && Nat.beq z2 2 && Nat.beq z3 0 && Nat.beq z4 0 && Nat.beq z5 4 && Nat.beq z6 1 && Nat.beq z7 0 && Nat.beq z8 5 && Nat.beq z9 2 && Nat.beq z10 3 && Nat.beq z11 0) (spec_RunDecisions_L5 N (fun v c0 c0_1 c0_2 c0_3 c0_4 c0_5 c0_6 c0_7 c0_8 => k (.ret) [(2, .ref 0 0), (3, .d (.bool v))] [.sv [.nil, .d (.int .i64 c0), .d (.int .i64 c0_1), .d (.int .i64 c0_2), .d (.int .i64 c0_3), .d (.str c0_4), .d (.int .i64 c0_5), .d (.int .i64 c0_6), .d (.int .i64 c0_7), .d (.int .i64 c0_8)]]) (fun c0 c0_1 c0_2 c0_3 c0_4 c0_5 c0_6 c0_7 c0_8 c1 c1_1 c1_2 c1_3 c1_4 c1_5 c1_6 c1_7 c1_8 c2 => k (.exit 0) [(2, .ref 0 0), (4, .ref 1 0)] [.sv [.nil, .d (.int .i64 c0), .d (.int .i64 c0_1), .d (.int .i64 c0_2), .d (.int .i64 c0_3), .d (.str c0_4), .d (.int .i64 c0_5), .d (.int .i64 c0_6), .d (.int .i64 c0_7), .d (.int .i64 c0_8)], .sv [.sl 2, .d (.int .i64 c1), .d (.int .i64 c1_1), .d (.int .i64 c1_2), .d (.int .i64 c1_3), .d (.str c1_4), .d (.int .i64 c1_5), .d (.int .i64 c1_6), .d (.int .i64 c1_7), .d (.int .i64 c1_8)], .ar 3 0 c2]) N list vk c0 c0_1 c0_2 c0_3 c0_4 c0_5 c0_6 c0_7 c0_8 c1 c1_1 c1_2 c1_3 c1_4 c1_5 c1_6 c1_7 c1_8 c2)
  | _, _ => none

theorem spec_RunDecisions_L5_ok (N : Nat) : LOK Try.prog 33 0 (lpF Try.f16 0) (spec_RunDecisions_L5_s N) := by
  refine (lsum_ok tt_ok mixed (spec_RunDecisions_C5_Γ N) (spec_RunDecisions_C5_Λ N) [] [0, 2, 4, 5] spec_RunDecisions_L5_x N).of ?_
  intro R l m k r h
  unfold spec_RunDecisions_L5_s at h
  refine gcf_mono ?_ h
  intro l2 m2 h
  split at h
  · obtain ⟨hc, h⟩ := chk_eq h
    simp only [Bool.and_eq_true, Nat.beq_eq_true_eq] at hc
    obtain ⟨⟨⟨⟨⟨⟨⟨⟨⟨⟨rfl, rfl⟩, rfl⟩, rfl⟩, rfl⟩, rfl⟩, rfl⟩, rfl⟩, rfl⟩, rfl⟩, rfl⟩ := hc
    rw [spec_RunDecisions_L5_eq]
    exact h
  · cases h

def spec_RunDecisions_c {R : Type} (N : Nat) (xs : List (List PV)) (k : AV → List AB → Option R) : Option R :=
  br (decide ((xs.length : Int) > 60))
  (k (.tup [.agg [.nil, .d (.int .i64 0), .d (.int .i64 0), .d (.int .i64 0), .d (.int .i64 0), .d (.str ⟨#[]⟩), .d (.int .i64 0), .d (.int .i64 0), .d (.int .i64 0), .d (.int .i64 0)], .d (.bool false)]) [])
  (spec_RunDecisions_L5 N (fun v c0 c0_1 c0_2 c0_3 c0_4 c0_5 c0_6 c0_7 c0_8 =>
    k (.tup [.agg [.nil, .d (.int .i64 c0), .d (.int .i64 c0_1), .d (.int .i64 c0_2), .d (.int .i64 c0_3), .d (.str c0_4), .d (.int .i64 c0_5), .d (.int .i64 c0_6), .d (.int .i64 c0_7), .d (.int .i64 c0_8)], .d (.bool v)]) [])
   (fun c0 c0_1 c0_2 c0_3 c0_4 c0_5 c0_6 c0_7 c0_8 c1 c1_1 c1_2 c1_3 c1_4 c1_5 c1_6 c1_7 c1_8 c2 =>
    k (.tup [.agg [.sl 0, .d (.int .i64 c1), .d (.int .i64 c1_1), .d (.int .i64 c1_2), .d (.int .i64 c1_3), .d (.str c1_4), .d (.int .i64 c1_5), .d (.int .i64 c1_6), .d (.int .i64 c1_7), .d (.int .i64 c1_8)], .d (.bool true)]) [.ar 3 0 c2]) N xs 0 0 0 0 0 ⟨#[]⟩ 0 0 0 0 1 0 0 0 ⟨#[]⟩ 0 0 0 0 ([zRoute].map Route.pv))

def spec_RunDecisions_C (N : Nat) : CC := ⟨Γ_impl_NewMaster, (Λc 5 (spec_RunDecisions_L5_s N) Λ0), (Δc 7 spec_RunDecisions_dr7 Δ0), Μ0⟩

theorem spec_RunDecisions_C_Γ (N : Nat) : ∀ f s, (spec_RunDecisions_C N).Γ f = some s → SmrOK Try.prog f s := Γ_impl_NewMaster_ok

theorem spec_RunDecisions_C_Λ (N : Nat) : ∀ c, Try.f16.body = some c → ∀ b ∈ loopsIn c, ∀ s, (spec_RunDecisions_C N).Λ (lid b) = some s → LOK Try.prog Try.f16.ntmps 0 b s :=
  LOKs_ofF (bs := [(lpF Try.f16 0)]) (by kernel_rfl) (LOKs_c (l := spec_RunDecisions_L5_s N) (by kernel_rfl) (spec_RunDecisions_L5_ok N) LOKs_n)

theorem spec_RunDecisions_run {R : Type} (N : Nat) (xs : List (List PV)) (k : AV → List AB → Option R) :
    cfunN tt (spec_RunDecisions_C N) Try.f16 0 [.d (.ls xs)] [] k = spec_RunDecisions_c N xs k := by kernel_rfl

theorem sRun_loop {R : Type} (N : Nat) (ds : List Decision) (hl : ds.length ≤ 60) (k1 : Bool → Int → Int → Int → Int → ByteArray → Int → Int → Int → Int → Option R) (k2 : Int → Int → Int → Int → ByteArray → Int → Int → Int → Int → Int → Int → Int → Int → ByteArray → Int → Int → Int → Int → List (List PV) → Option R) : ∀ (M i : Nat) (m : Master), i ≤ ds.length → ds.length < i + M → m.routes.length ≤ 9 →
    spec_RunDecisions_L5 N k1 k2 M (ds.map Decision.pv) (i : Int) 0 0 0 0 ⟨#[]⟩ 0 0 0 0 m.shards m.work.kind m.work.first m.work.second m.work.key m.work.src m.work.dst m.work.step m.turn (m.routes.map Route.pv) =
      match goDec m (ds.drop i) with
      | some c => k2 0 0 0 0 ⟨#[]⟩ 0 0 0 0 c.shards c.work.kind c.work.first c.work.second c.work.key c.work.src c.work.dst c.work.step c.turn (c.routes.map Route.pv)
      | none => k1 false 0 0 0 0 ⟨#[]⟩ 0 0 0 0
  | 0, i, m, h1, h2, _ => by omega
  | M + 1, i, m, h1, h2, h3 => by
    simp only [spec_RunDecisions_L5, spec_RunDecisions_B5, bnd, List.length_map]
    by_cases h : i < ds.length
    · rw [lt_t h, br_t, getC_map h]
      simp only [Route.pv, Iv.pv, Decision.pv, Plan.pv, dInt_c, dStr_c, List.length_cons, List.length_nil, Nat.zero_add, Nat.reduceAdd, chk_beq, chk_t, br_t, br_f, bi_s, unRoutes_map, unIvs_map, unDecs_map]
      rw [decide_eq_true (show m.routes.length ≤ 1048576 by omega), chk_t, List.drop_eq_getElem_cons h]
      simp only [goDec]
      have e : applyDec ⟨m.routes, m.shards, ⟨m.work.kind, m.work.first, m.work.second, m.work.key, m.work.src, m.work.dst, m.work.step⟩, m.turn⟩ ⟨ds[i].kind, ⟨ds[i].begun.kind, ds[i].begun.first, ds[i].begun.second, ds[i].begun.key, ds[i].begun.src, ds[i].begun.dst, ds[i].begun.step⟩⟩ = applyDec m ds[i] := rfl
      rw [e]
      cases ha : (applyDec m ds[i]).2
      · rfl
      · simp only [Bool.not_true, br_f, if_true]
        rw [wrap_s (by omega)]
        exact sRun_loop N ds hl k1 k2 M (i + 1) (applyDec m ds[i]).1 (by omega) (by omega) (applyDec_len _ _)
    · rw [lt_f h, br_f, List.drop_of_length_le (by omega)]
      rfl
theorem spec_RunDecisions_ceq {R : Type} (N : Nat) (ds : List Decision) (k : AV → List AB → Option R) (hN : 64 ≤ N) (hp1 : (decide (ds.length ≤ 1048576)) = true) :
    spec_RunDecisions_c N (ds.map Decision.pv) k = br ((runDec ds).2) (k (.tup [.agg [.sl 0, .d (.int .i64 ((runDec ds).1.shards)), .d (.int .i64 ((runDec ds).1.work.kind)), .d (.int .i64 ((runDec ds).1.work.first)), .d (.int .i64 ((runDec ds).1.work.second)), .d (.str ((runDec ds).1.work.key)), .d (.int .i64 ((runDec ds).1.work.src)), .d (.int .i64 ((runDec ds).1.work.dst)), .d (.int .i64 ((runDec ds).1.work.step)), .d (.int .i64 ((runDec ds).1.turn))], .d (.bool true)]) [.ar 3 0 ((runDec ds).1.routes.map Route.pv)]) (k (.tup [.agg [.nil, .d (.int .i64 0), .d (.int .i64 0), .d (.int .i64 0), .d (.int .i64 0), .d (.str ⟨#[]⟩), .d (.int .i64 0), .d (.int .i64 0), .d (.int .i64 0), .d (.int .i64 0)], .d (.bool false)]) []) := by
  simp only [spec_RunDecisions_c, List.length_map]
  unfold runDec
  by_cases h : ds.length ≤ 60
  · rw [decide_eq_false (by omega), br_f, if_pos h]
    refine (sRun_loop N ds h _ _ N 0 newMaster (by omega) (by omega) (by simp [newMaster])).trans ?_
    simp only [List.drop_zero]
    cases goDec newMaster ds <;> rfl
  · rw [decide_eq_true (by omega), br_t, if_neg h]; rfl
theorem spec_RunDecisions_weq (ds : List Decision) (hp1 : (decide (ds.length ≤ 1048576)) = true) :
    br ((runDec ds).2) ((fun a m => some (wdA 3 a m)) (.tup [.agg [.sl 0, .d (.int .i64 ((runDec ds).1.shards)), .d (.int .i64 ((runDec ds).1.work.kind)), .d (.int .i64 ((runDec ds).1.work.first)), .d (.int .i64 ((runDec ds).1.work.second)), .d (.str ((runDec ds).1.work.key)), .d (.int .i64 ((runDec ds).1.work.src)), .d (.int .i64 ((runDec ds).1.work.dst)), .d (.int .i64 ((runDec ds).1.work.step)), .d (.int .i64 ((runDec ds).1.turn))], .d (.bool true)]) [.ar 3 0 ((runDec ds).1.routes.map Route.pv)]) ((fun a m => some (wdA 3 a m)) (.tup [.agg [.nil, .d (.int .i64 0), .d (.int .i64 0), .d (.int .i64 0), .d (.int .i64 0), .d (.str ⟨#[]⟩), .d (.int .i64 0), .d (.int .i64 0), .d (.int .i64 0), .d (.int .i64 0)], .d (.bool false)]) []) = some (.tup [.agg [.sl 0, .d (.int .i64 ((runDec ds).1.shards)), .d (.int .i64 ((runDec ds).1.work.kind)), .d (.int .i64 ((runDec ds).1.work.first)), .d (.int .i64 ((runDec ds).1.work.second)), .d (.str ((runDec ds).1.work.key)), .d (.int .i64 ((runDec ds).1.work.src)), .d (.int .i64 ((runDec ds).1.work.dst)), .d (.int .i64 ((runDec ds).1.work.step)), .d (.int .i64 ((runDec ds).1.turn))], .d (.bool ((runDec ds).2))], [.ar 3 0 ((runDec ds).1.routes.map Route.pv)]) := by
  unfold runDec
  by_cases h : ds.length ≤ 60
  · rw [if_pos h]
    cases goDec newMaster ds <;> rfl
  · rw [if_neg h]; rfl
def spec_RunDecisions_sm : Smr := ⟨[false], fun R args mem k => match nilAVs args, mem with
  | [.d (.ls xs)], [] => bi (unDecs xs) fun ds => chk (decide (ds.length ≤ 1048576)) (k (.tup [.agg [.sl 0, .d (.int .i64 ((runDec ds).1.shards)), .d (.int .i64 ((runDec ds).1.work.kind)), .d (.int .i64 ((runDec ds).1.work.first)), .d (.int .i64 ((runDec ds).1.work.second)), .d (.str ((runDec ds).1.work.key)), .d (.int .i64 ((runDec ds).1.work.src)), .d (.int .i64 ((runDec ds).1.work.dst)), .d (.int .i64 ((runDec ds).1.work.step)), .d (.int .i64 ((runDec ds).1.turn))], .d (.bool ((runDec ds).2))]) [.ar 3 0 ((runDec ds).1.routes.map Route.pv)])
  | _, _ => none⟩

theorem spec_RunDecisions_ok : SmrOK Try.prog 16 spec_RunDecisions_sm := by
  intro R args mem k r h
  simp only [spec_RunDecisions_sm] at h
  generalize hA : nilAVs args = args' at h
  split at h
  · rename_i xs
    obtain ⟨ds, hd0, h1⟩ := bi_eq h
    have hd0 := unDecs_eq hd0
    subst hd0
    obtain ⟨hp1, h2⟩ := chk_eq h1
    replace h := h2
    refine ⟨_, _, Spec.nl hA ?_, h⟩
    have hw := spec_RunDecisions_weq ds hp1
    cases hb0 : ((runDec ds).2) with
    | true =>
      simp only [br, hb0] at hw
      have hs : Spec Try.prog 16 _ [] (.tup [.agg [.sl 0, .d (.int .i64 ((runDec ds).1.shards)), .d (.int .i64 ((runDec ds).1.work.kind)), .d (.int .i64 ((runDec ds).1.work.first)), .d (.int .i64 ((runDec ds).1.work.second)), .d (.str ((runDec ds).1.work.key)), .d (.int .i64 ((runDec ds).1.work.src)), .d (.int .i64 ((runDec ds).1.work.dst)), .d (.int .i64 ((runDec ds).1.work.step)), .d (.int .i64 ((runDec ds).1.turn))], .d (.bool true)]) [.ar 3 0 ((runDec ds).1.routes.map Route.pv)] := spec_of_run tt_ok mixed (spec_RunDecisions_C_Γ (64)) Try.func16 (by kernel_rfl) (mem := []) (Nat.le_of_ble_eq_true (by kernel_rfl)) (spec_RunDecisions_C_Λ (64)) ((spec_RunDecisions_run (64) (ds.map Decision.pv) _).trans ((spec_RunDecisions_ceq (64) ds _ (Nat.le_refl _) hp1).trans (by simp only [br, hb0])))
      have hs := hs.wd 3 (Nat.le_of_ble_eq_true (by kernel_rfl))
      rw [Option.some.inj hw] at hs
      exact hs
    | false =>
      simp only [br, hb0] at hw
      have hs : Spec Try.prog 16 _ [] (.tup [.agg [.nil, .d (.int .i64 0), .d (.int .i64 0), .d (.int .i64 0), .d (.int .i64 0), .d (.str ⟨#[]⟩), .d (.int .i64 0), .d (.int .i64 0), .d (.int .i64 0), .d (.int .i64 0)], .d (.bool false)]) [] := spec_of_run tt_ok mixed (spec_RunDecisions_C_Γ (64)) Try.func16 (by kernel_rfl) (mem := []) (Nat.le_of_ble_eq_true (by kernel_rfl)) (spec_RunDecisions_C_Λ (64)) ((spec_RunDecisions_run (64) (ds.map Decision.pv) _).trans ((spec_RunDecisions_ceq (64) ds _ (Nat.le_refl _) hp1).trans (by simp only [br, hb0])))
      have hs := hs.wd 3 (Nat.le_of_ble_eq_true (by kernel_rfl))
      rw [Option.some.inj hw] at hs
      exact hs
  · cases h

def Γ_spec_RunDecisions : FuncId → Option Smr := Γc 16 spec_RunDecisions_sm Γ_impl_NewMaster
theorem Γ_spec_RunDecisions_ok : ∀ f s, Γ_spec_RunDecisions f = some s → SmrOK Try.prog f s := Γc_ok spec_RunDecisions_ok Γ_impl_NewMaster_ok


/- impl.RunDecisions -/

def impl_RunDecisions_B5 {R : Type} (N : Nat) (rec : List (List PV) → Int → Int → Int → Int → Int → Int → ByteArray → Int → Int → Int → Int → Int → Int → Int → Int → ByteArray → Int → Int → Int → Int → List (List PV) → Option R) (v : List (List PV)) (v_1 : Int) (v_2 : Int) (c0 : Int) (c0_1 : Int) (c0_2 : Int) (c0_3 : Int) (c0_4 : ByteArray) (c0_5 : Int) (c0_6 : Int) (c0_7 : Int) (c0_8 : Int) (c1 : Int) (c1_1 : Int) (c1_2 : Int) (c1_3 : Int) (c1_4 : ByteArray) (c1_5 : Int) (c1_6 : Int) (c1_7 : Int) (c1_8 : Int) (c2 : List (List PV)) (k1 : Bool → Int → Int → Int → Int → ByteArray → Int → Int → Int → Int → Option R) (k2 : Int → Int → Int → Int → ByteArray → Int → Int → Int → Int → Int → Int → Int → Int → ByteArray → Int → Int → Int → Int → List (List PV) → Option R) : Option R :=
  br (decide (v_2 < v_1))
  (getC v v_2 fun x1 =>
   dInt .i64 x1 fun n3 r2 => dInt .i64 r2 fun n5 r4 => dInt .i64 r4 fun n7 r6 => dInt .i64 r6 fun n9 r8 => dStr r8 fun s11 r10 => dInt .i64 r10 fun n13 r12 => dInt .i64 r12 fun n15 r14 => dInt .i64 r14 fun n17 r16 =>
   chk (Nat.beq x1.length 8)
   (bi (unRoutes c2) fun rs18 =>
    chk (decide (rs18.length ≤ 1048576))
    (br (!((applyDec ⟨rs18, c1, ⟨c1_1, c1_2, c1_3, c1_4, c1_5, c1_6, c1_7⟩, c1_8⟩ ⟨n3, ⟨n5, n7, n9, s11, n13, n15, n17⟩⟩).2))
     (k1 false 0 0 0 0 ⟨#[]⟩ 0 0 0 0)
     (rec v v_1 (IntKind.i64.wrap (v_2 + 1)) c0 c0_1 c0_2 c0_3 c0_4 c0_5 c0_6 c0_7 c0_8 ((applyDec ⟨rs18, c1, ⟨c1_1, c1_2, c1_3, c1_4, c1_5, c1_6, c1_7⟩, c1_8⟩ ⟨n3, ⟨n5, n7, n9, s11, n13, n15, n17⟩⟩).1.shards) ((applyDec ⟨rs18, c1, ⟨c1_1, c1_2, c1_3, c1_4, c1_5, c1_6, c1_7⟩, c1_8⟩ ⟨n3, ⟨n5, n7, n9, s11, n13, n15, n17⟩⟩).1.work.kind) ((applyDec ⟨rs18, c1, ⟨c1_1, c1_2, c1_3, c1_4, c1_5, c1_6, c1_7⟩, c1_8⟩ ⟨n3, ⟨n5, n7, n9, s11, n13, n15, n17⟩⟩).1.work.first) ((applyDec ⟨rs18, c1, ⟨c1_1, c1_2, c1_3, c1_4, c1_5, c1_6, c1_7⟩, c1_8⟩ ⟨n3, ⟨n5, n7, n9, s11, n13, n15, n17⟩⟩).1.work.second) ((applyDec ⟨rs18, c1, ⟨c1_1, c1_2, c1_3, c1_4, c1_5, c1_6, c1_7⟩, c1_8⟩ ⟨n3, ⟨n5, n7, n9, s11, n13, n15, n17⟩⟩).1.work.key) ((applyDec ⟨rs18, c1, ⟨c1_1, c1_2, c1_3, c1_4, c1_5, c1_6, c1_7⟩, c1_8⟩ ⟨n3, ⟨n5, n7, n9, s11, n13, n15, n17⟩⟩).1.work.src) ((applyDec ⟨rs18, c1, ⟨c1_1, c1_2, c1_3, c1_4, c1_5, c1_6, c1_7⟩, c1_8⟩ ⟨n3, ⟨n5, n7, n9, s11, n13, n15, n17⟩⟩).1.work.dst) ((applyDec ⟨rs18, c1, ⟨c1_1, c1_2, c1_3, c1_4, c1_5, c1_6, c1_7⟩, c1_8⟩ ⟨n3, ⟨n5, n7, n9, s11, n13, n15, n17⟩⟩).1.work.step) ((applyDec ⟨rs18, c1, ⟨c1_1, c1_2, c1_3, c1_4, c1_5, c1_6, c1_7⟩, c1_8⟩ ⟨n3, ⟨n5, n7, n9, s11, n13, n15, n17⟩⟩).1.turn) ((applyDec ⟨rs18, c1, ⟨c1_1, c1_2, c1_3, c1_4, c1_5, c1_6, c1_7⟩, c1_8⟩ ⟨n3, ⟨n5, n7, n9, s11, n13, n15, n17⟩⟩).1.routes.map Route.pv)))))
  (k2 c0 c0_1 c0_2 c0_3 c0_4 c0_5 c0_6 c0_7 c0_8 c1 c1_1 c1_2 c1_3 c1_4 c1_5 c1_6 c1_7 c1_8 c2)

def impl_RunDecisions_L5 {R : Type} (N : Nat) (k1 : Bool → Int → Int → Int → Int → ByteArray → Int → Int → Int → Int → Option R) (k2 : Int → Int → Int → Int → ByteArray → Int → Int → Int → Int → Int → Int → Int → Int → ByteArray → Int → Int → Int → Int → List (List PV) → Option R) : Nat → List (List PV) → Int → Int → Int → Int → Int → Int → ByteArray → Int → Int → Int → Int → Int → Int → Int → Int → ByteArray → Int → Int → Int → Int → List (List PV) → Option R
  | 0, _, _, _, _, _, _, _, _, _, _, _, _, _, _, _, _, _, _, _, _, _, _ => none
  | M + 1, v, v_1, v_2, c0, c0_1, c0_2, c0_3, c0_4, c0_5, c0_6, c0_7, c0_8, c1, c1_1, c1_2, c1_3, c1_4, c1_5, c1_6, c1_7, c1_8, c2 => impl_RunDecisions_B5 N (impl_RunDecisions_L5 N k1 k2 M) v v_1 v_2 c0 c0_1 c0_2 c0_3 c0_4 c0_5 c0_6 c0_7 c0_8 c1 c1_1 c1_2 c1_3 c1_4 c1_5 c1_6 c1_7 c1_8 c2 k1 k2

def impl_RunDecisions_L5_x (e : Ex) : List Nat := (fun e => match e with
    | .normal => []
    | .exit id => match Nat.beq id 0 with | true => [2, 4] | false => []
    | .ret => [2, 3]) e

def impl_RunDecisions_C5 (N : Nat) : CC := ⟨Γ_spec_RunDecisions, Λ0, Δ0, Μ0⟩

theorem impl_RunDecisions_C5_Γ (N : Nat) : ∀ f s, (impl_RunDecisions_C5 N).Γ f = some s → SmrOK Try.prog f s := Γ_spec_RunDecisions_ok

theorem impl_RunDecisions_C5_Λ (N : Nat) : ∀ b ∈ loopsIn (lpF Try.f18 0), ∀ s, (impl_RunDecisions_C5 N).Λ (lid b) = some s → LOK Try.prog 30 0 b s :=
  LOKs_of (bs := []) (by kernel_rfl) LOKs_n

theorem impl_RunDecisions_B5_eq {R : Type} (N : Nat) (rec : TL → List AB → Option R) (v : List (List PV)) (v_1 : Int) (v_2 : Int) (c0 : Int) (c0_1 : Int) (c0_2 : Int) (c0_3 : Int) (c0_4 : ByteArray) (c0_5 : Int) (c0_6 : Int) (c0_7 : Int) (c0_8 : Int) (c1 : Int) (c1_1 : Int) (c1_2 : Int) (c1_3 : Int) (c1_4 : ByteArray) (c1_5 : Int) (c1_6 : Int) (c1_7 : Int) (c1_8 : Int) (c2 : List (List PV)) (k : Ex → TL → List AB → Option R) :
    (crun tt (impl_RunDecisions_C5 N) 30 (lpF Try.f18 0)) [(2, .ref 0 0), (4, .ref 1 0), (13, .d (.ls v)), (14, .d (.int .i64 v_1)), (15, .d (.int .i64 v_2))] [.sv [.nil, .d (.int .i64 c0), .d (.int .i64 c0_1), .d (.int .i64 c0_2), .d (.int .i64 c0_3), .d (.str c0_4), .d (.int .i64 c0_5), .d (.int .i64 c0_6), .d (.int .i64 c0_7), .d (.int .i64 c0_8)], .sv [.sl 2, .d (.int .i64 c1), .d (.int .i64 c1_1), .d (.int .i64 c1_2), .d (.int .i64 c1_3), .d (.str c1_4), .d (.int .i64 c1_5), .d (.int .i64 c1_6), .d (.int .i64 c1_7), .d (.int .i64 c1_8)], .ar 3 0 c2] (lnext 30 0 [] [2, 4, 13, 14, 15] rec (lexit 30 0 impl_RunDecisions_L5_x k)) =
    impl_RunDecisions_B5 N (fun v v_1 v_2 c0 c0_1 c0_2 c0_3 c0_4 c0_5 c0_6 c0_7 c0_8 c1 c1_1 c1_2 c1_3 c1_4 c1_5 c1_6 c1_7 c1_8 c2 => rec [(2, .ref 0 0), (4, .ref 1 0), (13, .d (.ls v)), (14, .d (.int .i64 v_1)), (15, .d (.int .i64 v_2))] [.sv [.nil, .d (.int .i64 c0), .d (.int .i64 c0_1), .d (.int .i64 c0_2), .d (.int .i64 c0_3), .d (.str c0_4), .d (.int .i64 c0_5), .d (.int .i64 c0_6), .d (.int .i64 c0_7), .d (.int .i64 c0_8)], .sv [.sl 2, .d (.int .i64 c1), .d (.int .i64 c1_1), .d (.int .i64 c1_2), .d (.int .i64 c1_3), .d (.str c1_4), .d (.int .i64 c1_5), .d (.int .i64 c1_6), .d (.int .i64 c1_7), .d (.int .i64 c1_8)], .ar 3 0 c2]) v v_1 v_2 c0 c0_1 c0_2 c0_3 c0_4 c0_5 c0_6 c0_7 c0_8 c1 c1_1 c1_2 c1_3 c1_4 c1_5 c1_6 c1_7 c1_8 c2 (fun v c0 c0_1 c0_2 c0_3 c0_4 c0_5 c0_6 c0_7 c0_8 => k (.ret) [(2, .ref 0 0), (3, .d (.bool v))] [.sv [.nil, .d (.int .i64 c0), .d (.int .i64 c0_1), .d (.int .i64 c0_2), .d (.int .i64 c0_3), .d (.str c0_4), .d (.int .i64 c0_5), .d (.int .i64 c0_6), .d (.int .i64 c0_7), .d (.int .i64 c0_8)]]) (fun c0 c0_1 c0_2 c0_3 c0_4 c0_5 c0_6 c0_7 c0_8 c1 c1_1 c1_2 c1_3 c1_4 c1_5 c1_6 c1_7 c1_8 c2 => k (.exit 0) [(2, .ref 0 0), (4, .ref 1 0)] [.sv [.nil, .d (.int .i64 c0), .d (.int .i64 c0_1), .d (.int .i64 c0_2), .d (.int .i64 c0_3), .d (.str c0_4), .d (.int .i64 c0_5), .d (.int .i64 c0_6), .d (.int .i64 c0_7), .d (.int .i64 c0_8)], .sv [.sl 2, .d (.int .i64 c1), .d (.int .i64 c1_1), .d (.int .i64 c1_2), .d (.int .i64 c1_3), .d (.str c1_4), .d (.int .i64 c1_5), .d (.int .i64 c1_6), .d (.int .i64 c1_7), .d (.int .i64 c1_8)], .ar 3 0 c2]) := by kernel_rfl

theorem impl_RunDecisions_L5_eq {R : Type} (N : Nat) (k : Ex → TL → List AB → Option R) : ∀ (M : Nat) (v : List (List PV)) (v_1 : Int) (v_2 : Int) (c0 : Int) (c0_1 : Int) (c0_2 : Int) (c0_3 : Int) (c0_4 : ByteArray) (c0_5 : Int) (c0_6 : Int) (c0_7 : Int) (c0_8 : Int) (c1 : Int) (c1_1 : Int) (c1_2 : Int) (c1_3 : Int) (c1_4 : ByteArray) (c1_5 : Int) (c1_6 : Int) (c1_7 : Int) (c1_8 : Int) (c2 : List (List PV)), loopG 30 0 [] (crun tt (impl_RunDecisions_C5 N) 30 (lpF Try.f18 0)) [2, 4, 13, 14, 15] (lexit 30 0 impl_RunDecisions_L5_x k) M [(2, .ref 0 0), (4, .ref 1 0), (13, .d (.ls v)), (14, .d (.int .i64 v_1)), (15, .d (.int .i64 v_2))] [.sv [.nil, .d (.int .i64 c0), .d (.int .i64 c0_1), .d (.int .i64 c0_2), .d (.int .i64 c0_3), .d (.str c0_4), .d (.int .i64 c0_5), .d (.int .i64 c0_6), .d (.int .i64 c0_7), .d (.int .i64 c0_8)], .sv [.sl 2, .d (.int .i64 c1), .d (.int .i64 c1_1), .d (.int .i64 c1_2), .d (.int .i64 c1_3), .d (.str c1_4), .d (.int .i64 c1_5), .d (.int .i64 c1_6), .d (.int .i64 c1_7), .d (.int .i64 c1_8)], .ar 3 0 c2] =
    impl_RunDecisions_L5 N (fun v c0 c0_1 c0_2 c0_3 c0_4 c0_5 c0_6 c0_7 c0_8 => k (.ret) [(2, .ref 0 0), (3, .d (.bool v))] [.sv [.nil, .d (.int .i64 c0), .d (.int .i64 c0_1), .d (.int .i64 c0_2), .d (.int .i64 c0_3), .d (.str c0_4), .d (.int .i64 c0_5), .d (.int .i64 c0_6), .d (.int .i64 c0_7), .d (.int .i64 c0_8)]]) (fun c0 c0_1 c0_2 c0_3 c0_4 c0_5 c0_6 c0_7 c0_8 c1 c1_1 c1_2 c1_3 c1_4 c1_5 c1_6 c1_7 c1_8 c2 => k (.exit 0) [(2, .ref 0 0), (4, .ref 1 0)] [.sv [.nil, .d (.int .i64 c0), .d (.int .i64 c0_1), .d (.int .i64 c0_2), .d (.int .i64 c0_3), .d (.str c0_4), .d (.int .i64 c0_5), .d (.int .i64 c0_6), .d (.int .i64 c0_7), .d (.int .i64 c0_8)], .sv [.sl 2, .d (.int .i64 c1), .d (.int .i64 c1_1), .d (.int .i64 c1_2), .d (.int .i64 c1_3), .d (.str c1_4), .d (.int .i64 c1_5), .d (.int .i64 c1_6), .d (.int .i64 c1_7), .d (.int .i64 c1_8)], .ar 3 0 c2]) M v v_1 v_2 c0 c0_1 c0_2 c0_3 c0_4 c0_5 c0_6 c0_7 c0_8 c1 c1_1 c1_2 c1_3 c1_4 c1_5 c1_6 c1_7 c1_8 c2
  | 0, _, _, _, _, _, _, _, _, _, _, _, _, _, _, _, _, _, _, _, _, _, _ => rfl
  | M + 1, v, v_1, v_2, c0, c0_1, c0_2, c0_3, c0_4, c0_5, c0_6, c0_7, c0_8, c1, c1_1, c1_2, c1_3, c1_4, c1_5, c1_6, c1_7, c1_8, c2 => (impl_RunDecisions_B5_eq N (loopG 30 0 [] (crun tt (impl_RunDecisions_C5 N) 30 (lpF Try.f18 0)) [2, 4, 13, 14, 15] (lexit 30 0 impl_RunDecisions_L5_x k) M) v v_1 v_2 c0 c0_1 c0_2 c0_3 c0_4 c0_5 c0_6 c0_7 c0_8 c1 c1_1 c1_2 c1_3 c1_4 c1_5 c1_6 c1_7 c1_8 c2 k).trans (congrArg (fun rec => impl_RunDecisions_B5 N rec v v_1 v_2 c0 c0_1 c0_2 c0_3 c0_4 c0_5 c0_6 c0_7 c0_8 c1 c1_1 c1_2 c1_3 c1_4 c1_5 c1_6 c1_7 c1_8 c2 (fun v c0 c0_1 c0_2 c0_3 c0_4 c0_5 c0_6 c0_7 c0_8 => k (.ret) [(2, .ref 0 0), (3, .d (.bool v))] [.sv [.nil, .d (.int .i64 c0), .d (.int .i64 c0_1), .d (.int .i64 c0_2), .d (.int .i64 c0_3), .d (.str c0_4), .d (.int .i64 c0_5), .d (.int .i64 c0_6), .d (.int .i64 c0_7), .d (.int .i64 c0_8)]]) (fun c0 c0_1 c0_2 c0_3 c0_4 c0_5 c0_6 c0_7 c0_8 c1 c1_1 c1_2 c1_3 c1_4 c1_5 c1_6 c1_7 c1_8 c2 => k (.exit 0) [(2, .ref 0 0), (4, .ref 1 0)] [.sv [.nil, .d (.int .i64 c0), .d (.int .i64 c0_1), .d (.int .i64 c0_2), .d (.int .i64 c0_3), .d (.str c0_4), .d (.int .i64 c0_5), .d (.int .i64 c0_6), .d (.int .i64 c0_7), .d (.int .i64 c0_8)], .sv [.sl 2, .d (.int .i64 c1), .d (.int .i64 c1_1), .d (.int .i64 c1_2), .d (.int .i64 c1_3), .d (.str c1_4), .d (.int .i64 c1_5), .d (.int .i64 c1_6), .d (.int .i64 c1_7), .d (.int .i64 c1_8)], .ar 3 0 c2])) (funext fun v => (funext fun v_1 => (funext fun v_2 => (funext fun c0 => (funext fun c0_1 => (funext fun c0_2 => (funext fun c0_3 => (funext fun c0_4 => (funext fun c0_5 => (funext fun c0_6 => (funext fun c0_7 => (funext fun c0_8 => (funext fun c1 => (funext fun c1_1 => (funext fun c1_2 => (funext fun c1_3 => (funext fun c1_4 => (funext fun c1_5 => (funext fun c1_6 => (funext fun c1_7 => (funext fun c1_8 => (funext fun c2 => impl_RunDecisions_L5_eq N k M v v_1 v_2 c0 c0_1 c0_2 c0_3 c0_4 c0_5 c0_6 c0_7 c0_8 c1 c1_1 c1_2 c1_3 c1_4 c1_5 c1_6 c1_7 c1_8 c2)))))))))))))))))))))))

def impl_RunDecisions_L5_s (N : Nat) : LSum := fun R l m k => gcf 30 0 [] [2, 4, 13, 14, 15] l m fun l2 m2 => match l2, m2 with
  | [(z1, .ref z2 z3), (z4, .ref z5 z6), (z7, .d (.ls v)), (z8, .d (.int .i64 v_1)), (z9, .d (.int .i64 v_2))], [.sv [.nil, .d (.int .i64 c0), .d (.int .i64 c0_1), .d (.int .i64 c0_2), .d (.int .i64 c0_3), .d (.str c0_4), .d (.int .i64 c0_5), .d (.int .i64 c0_6), .d (.int .i64 c0_7), .d (.int .i64 c0_8)], .sv [.sl z10, .d (.int .i64 c1), .d (.int .i64 c1_1), .d (.int .i64 c1_2), .d (.int .i64 c1_3), .d (.str c1_4), .d (.int .i64 c1_5), .d (.int .i64 c1_6), .d (.int .i64 c1_7), .d (.int .i64 c1_8)], .ar z11 z12 c2] => chk (Nat.beq z1 2 && Nat.beq z2 0 && Nat.beq z3 0 && Nat.beq z4 4 && Nat.beq z5 1 && Nat.beq z6 0 && Nat.beq z7 13 && Nat.beq z8 14 && Nat.beq z9 15 && Nat.beq z10 2 && Nat.beq z11 3 && Nat.beq z12 0) (impl_RunDecisions_L5 N (fun v c0 c0_1 c0_2 c0_3 c0_4 c0_5 c0_6 c0_7 c0_8 => k (.ret) [(2, .ref 0 0), (3, .d (.bool v))] [.sv [.nil, .d (.int .i64 c0), .d (.int .i64 c0_1), .d (.int .i64 c0_2), .d (.int .i64 c0_3), .d (.str c0_4), .d (.int .i64 c0_5), .d (.int .i64 c0_6), .d (.int .i64 c0_7), .d (.int .i64 c0_8)]]) (fun c0 c0_1 c0_2 c0_3 c0_4 c0_5 c0_6 c0_7 c0_8 c1 c1_1 c1_2 c1_3 c1_4 c1_5 c1_6 c1_7 c1_8 c2 => k (.exit 0) [(2, .ref 0 0), (4, .ref 1 0)] [.sv [.nil, .d (.int .i64 c0), .d (.int .i64 c0_1), .d (.int .i64 c0_2), .d (.int .i64 c0_3), .d (.str c0_4), .d (.int .i64 c0_5), .d (.int .i64 c0_6), .d (.int .i64 c0_7), .d (.int .i64 c0_8)], .sv [.sl 2, .d (.int .i64 c1), .d (.int .i64 c1_1), .d (.int .i64 c1_2), .d (.int .i64 c1_3), .d (.str c1_4), .d (.int .i64 c1_5), .d (.int .i64 c1_6), .d (.int .i64 c1_7), .d (.int .i64 c1_8)], .ar 3 0 c2]) N v v_1 v_2 c0 c0_1 c0_2 c0_3 c0_4 c0_5 c0_6 c0_7 c0_8 c1 c1_1 c1_2 c1_3 c1_4 c1_5 c1_6 c1_7 c1_8 c2)
  | _, _ => none

theorem impl_RunDecisions_L5_ok (N : Nat) : LOK Try.prog 30 0 (lpF Try.f18 0) (impl_RunDecisions_L5_s N) := by
  refine (lsum_ok tt_ok mixed (impl_RunDecisions_C5_Γ N) (impl_RunDecisions_C5_Λ N) [] [2, 4, 13, 14, 15] impl_RunDecisions_L5_x N).of ?_
  intro R l m k r h
  unfold impl_RunDecisions_L5_s at h
  refine gcf_mono ?_ h
  intro l2 m2 h
  split at h
  · obtain ⟨hc, h⟩ := chk_eq h
    simp only [Bool.and_eq_true, Nat.beq_eq_true_eq] at hc
    obtain ⟨⟨⟨⟨⟨⟨⟨⟨⟨⟨⟨rfl, rfl⟩, rfl⟩, rfl⟩, rfl⟩, rfl⟩, rfl⟩, rfl⟩, rfl⟩, rfl⟩, rfl⟩, rfl⟩ := hc
    rw [impl_RunDecisions_L5_eq]
    exact h
  · cases h

def impl_RunDecisions_c {R : Type} (N : Nat) (xs : List (List PV)) (k : AV → List AB → Option R) : Option R :=
  br (decide ((xs.length : Int) > 60))
  (k (.tup [.agg [.nil, .d (.int .i64 0), .d (.int .i64 0), .d (.int .i64 0), .d (.int .i64 0), .d (.str ⟨#[]⟩), .d (.int .i64 0), .d (.int .i64 0), .d (.int .i64 0), .d (.int .i64 0)], .d (.bool false)]) [])
  (impl_RunDecisions_L5 N (fun v c0 c0_1 c0_2 c0_3 c0_4 c0_5 c0_6 c0_7 c0_8 =>
    k (.tup [.agg [.nil, .d (.int .i64 c0), .d (.int .i64 c0_1), .d (.int .i64 c0_2), .d (.int .i64 c0_3), .d (.str c0_4), .d (.int .i64 c0_5), .d (.int .i64 c0_6), .d (.int .i64 c0_7), .d (.int .i64 c0_8)], .d (.bool v)]) [])
   (fun c0 c0_1 c0_2 c0_3 c0_4 c0_5 c0_6 c0_7 c0_8 c1 c1_1 c1_2 c1_3 c1_4 c1_5 c1_6 c1_7 c1_8 c2 =>
    k (.tup [.agg [.sl 0, .d (.int .i64 c1), .d (.int .i64 c1_1), .d (.int .i64 c1_2), .d (.int .i64 c1_3), .d (.str c1_4), .d (.int .i64 c1_5), .d (.int .i64 c1_6), .d (.int .i64 c1_7), .d (.int .i64 c1_8)], .d (.bool true)]) [.ar 3 0 c2]) N xs (xs.length : Int) 0 0 0 0 0 ⟨#[]⟩ 0 0 0 0 1 0 0 0 ⟨#[]⟩ 0 0 0 0 ([zRoute].map Route.pv))

def impl_RunDecisions_C (N : Nat) : CC := ⟨Γ_spec_RunDecisions, (Λc 5 (impl_RunDecisions_L5_s N) Λ0), Δ0, Μ0⟩

theorem impl_RunDecisions_C_Γ (N : Nat) : ∀ f s, (impl_RunDecisions_C N).Γ f = some s → SmrOK Try.prog f s := Γ_spec_RunDecisions_ok

theorem impl_RunDecisions_C_Λ (N : Nat) : ∀ c, Try.f18.body = some c → ∀ b ∈ loopsIn c, ∀ s, (impl_RunDecisions_C N).Λ (lid b) = some s → LOK Try.prog Try.f18.ntmps 0 b s :=
  LOKs_ofF (bs := [(lpF Try.f18 0)]) (by kernel_rfl) (LOKs_c (l := impl_RunDecisions_L5_s N) (by kernel_rfl) (impl_RunDecisions_L5_ok N) LOKs_n)

theorem impl_RunDecisions_run {R : Type} (N : Nat) (xs : List (List PV)) (k : AV → List AB → Option R) :
    cfunN tt (impl_RunDecisions_C N) Try.f18 0 [.d (.ls xs)] [] k = impl_RunDecisions_c N xs k := by kernel_rfl

theorem iRun_loop {R : Type} (N : Nat) (ds : List Decision) (hl : ds.length ≤ 60) (k1 : Bool → Int → Int → Int → Int → ByteArray → Int → Int → Int → Int → Option R) (k2 : Int → Int → Int → Int → ByteArray → Int → Int → Int → Int → Int → Int → Int → Int → ByteArray → Int → Int → Int → Int → List (List PV) → Option R) : ∀ (M i : Nat) (m : Master), i ≤ ds.length → ds.length < i + M → m.routes.length ≤ 9 →
    impl_RunDecisions_L5 N k1 k2 M (ds.map Decision.pv) ds.length (i : Int) 0 0 0 0 ⟨#[]⟩ 0 0 0 0 m.shards m.work.kind m.work.first m.work.second m.work.key m.work.src m.work.dst m.work.step m.turn (m.routes.map Route.pv) =
      match goDec m (ds.drop i) with
      | some c => k2 0 0 0 0 ⟨#[]⟩ 0 0 0 0 c.shards c.work.kind c.work.first c.work.second c.work.key c.work.src c.work.dst c.work.step c.turn (c.routes.map Route.pv)
      | none => k1 false 0 0 0 0 ⟨#[]⟩ 0 0 0 0
  | 0, i, m, h1, h2, _ => by omega
  | M + 1, i, m, h1, h2, h3 => by
    simp only [impl_RunDecisions_L5, impl_RunDecisions_B5, bnd]
    by_cases h : i < ds.length
    · rw [lt_t h, br_t, getC_map h]
      simp only [Route.pv, Iv.pv, Decision.pv, Plan.pv, dInt_c, dStr_c, List.length_cons, List.length_nil, Nat.zero_add, Nat.reduceAdd, chk_beq, chk_t, br_t, br_f, bi_s, unRoutes_map, unIvs_map, unDecs_map]
      rw [decide_eq_true (show m.routes.length ≤ 1048576 by omega), chk_t, List.drop_eq_getElem_cons h]
      simp only [goDec]
      have e : applyDec ⟨m.routes, m.shards, ⟨m.work.kind, m.work.first, m.work.second, m.work.key, m.work.src, m.work.dst, m.work.step⟩, m.turn⟩ ⟨ds[i].kind, ⟨ds[i].begun.kind, ds[i].begun.first, ds[i].begun.second, ds[i].begun.key, ds[i].begun.src, ds[i].begun.dst, ds[i].begun.step⟩⟩ = applyDec m ds[i] := rfl
      rw [e]
      cases ha : (applyDec m ds[i]).2
      · rfl
      · simp only [Bool.not_true, br_f, if_true]
        rw [wrap_s (by omega)]
        exact iRun_loop N ds hl k1 k2 M (i + 1) (applyDec m ds[i]).1 (by omega) (by omega) (applyDec_len _ _)
    · rw [lt_f h, br_f, List.drop_of_length_le (by omega)]
      rfl
theorem impl_RunDecisions_ceq {R : Type} (N : Nat) (ds : List Decision) (k : AV → List AB → Option R) (hN : 64 ≤ N) (hp1 : (decide (ds.length ≤ 1048576)) = true) :
    impl_RunDecisions_c N (ds.map Decision.pv) k = br ((runDec ds).2) (k (.tup [.agg [.sl 0, .d (.int .i64 ((runDec ds).1.shards)), .d (.int .i64 ((runDec ds).1.work.kind)), .d (.int .i64 ((runDec ds).1.work.first)), .d (.int .i64 ((runDec ds).1.work.second)), .d (.str ((runDec ds).1.work.key)), .d (.int .i64 ((runDec ds).1.work.src)), .d (.int .i64 ((runDec ds).1.work.dst)), .d (.int .i64 ((runDec ds).1.work.step)), .d (.int .i64 ((runDec ds).1.turn))], .d (.bool true)]) [.ar 3 0 ((runDec ds).1.routes.map Route.pv)]) (k (.tup [.agg [.nil, .d (.int .i64 0), .d (.int .i64 0), .d (.int .i64 0), .d (.int .i64 0), .d (.str ⟨#[]⟩), .d (.int .i64 0), .d (.int .i64 0), .d (.int .i64 0), .d (.int .i64 0)], .d (.bool false)]) []) := by
  simp only [impl_RunDecisions_c, List.length_map]
  unfold runDec
  by_cases h : ds.length ≤ 60
  · rw [decide_eq_false (by omega), br_f, if_pos h]
    refine (iRun_loop N ds h _ _ N 0 newMaster (by omega) (by omega) (by simp [newMaster])).trans ?_
    simp only [List.drop_zero]
    cases goDec newMaster ds <;> rfl
  · rw [decide_eq_true (by omega), br_t, if_neg h]; rfl
theorem impl_RunDecisions_weq (ds : List Decision) (hp1 : (decide (ds.length ≤ 1048576)) = true) :
    br ((runDec ds).2) ((fun a m => some (wdA 3 a m)) (.tup [.agg [.sl 0, .d (.int .i64 ((runDec ds).1.shards)), .d (.int .i64 ((runDec ds).1.work.kind)), .d (.int .i64 ((runDec ds).1.work.first)), .d (.int .i64 ((runDec ds).1.work.second)), .d (.str ((runDec ds).1.work.key)), .d (.int .i64 ((runDec ds).1.work.src)), .d (.int .i64 ((runDec ds).1.work.dst)), .d (.int .i64 ((runDec ds).1.work.step)), .d (.int .i64 ((runDec ds).1.turn))], .d (.bool true)]) [.ar 3 0 ((runDec ds).1.routes.map Route.pv)]) ((fun a m => some (wdA 3 a m)) (.tup [.agg [.nil, .d (.int .i64 0), .d (.int .i64 0), .d (.int .i64 0), .d (.int .i64 0), .d (.str ⟨#[]⟩), .d (.int .i64 0), .d (.int .i64 0), .d (.int .i64 0), .d (.int .i64 0)], .d (.bool false)]) []) = some (.tup [.agg [.sl 0, .d (.int .i64 ((runDec ds).1.shards)), .d (.int .i64 ((runDec ds).1.work.kind)), .d (.int .i64 ((runDec ds).1.work.first)), .d (.int .i64 ((runDec ds).1.work.second)), .d (.str ((runDec ds).1.work.key)), .d (.int .i64 ((runDec ds).1.work.src)), .d (.int .i64 ((runDec ds).1.work.dst)), .d (.int .i64 ((runDec ds).1.work.step)), .d (.int .i64 ((runDec ds).1.turn))], .d (.bool ((runDec ds).2))], [.ar 3 0 ((runDec ds).1.routes.map Route.pv)]) := by
  unfold runDec
  by_cases h : ds.length ≤ 60
  · rw [if_pos h]
    cases goDec newMaster ds <;> rfl
  · rw [if_neg h]; rfl
def impl_RunDecisions_sm : Smr := ⟨[false], fun R args mem k => match nilAVs args, mem with
  | [.d (.ls xs)], [] => bi (unDecs xs) fun ds => chk (decide (ds.length ≤ 1048576)) (k (.tup [.agg [.sl 0, .d (.int .i64 ((runDec ds).1.shards)), .d (.int .i64 ((runDec ds).1.work.kind)), .d (.int .i64 ((runDec ds).1.work.first)), .d (.int .i64 ((runDec ds).1.work.second)), .d (.str ((runDec ds).1.work.key)), .d (.int .i64 ((runDec ds).1.work.src)), .d (.int .i64 ((runDec ds).1.work.dst)), .d (.int .i64 ((runDec ds).1.work.step)), .d (.int .i64 ((runDec ds).1.turn))], .d (.bool ((runDec ds).2))]) [.ar 3 0 ((runDec ds).1.routes.map Route.pv)])
  | _, _ => none⟩

theorem impl_RunDecisions_ok : SmrOK Try.prog 18 impl_RunDecisions_sm := by
  intro R args mem k r h
  simp only [impl_RunDecisions_sm] at h
  generalize hA : nilAVs args = args' at h
  split at h
  · rename_i xs
    obtain ⟨ds, hd0, h1⟩ := bi_eq h
    have hd0 := unDecs_eq hd0
    subst hd0
    obtain ⟨hp1, h2⟩ := chk_eq h1
    replace h := h2
    refine ⟨_, _, Spec.nl hA ?_, h⟩
    have hw := impl_RunDecisions_weq ds hp1
    cases hb0 : ((runDec ds).2) with
    | true =>
      simp only [br, hb0] at hw
      have hs : Spec Try.prog 18 _ [] (.tup [.agg [.sl 0, .d (.int .i64 ((runDec ds).1.shards)), .d (.int .i64 ((runDec ds).1.work.kind)), .d (.int .i64 ((runDec ds).1.work.first)), .d (.int .i64 ((runDec ds).1.work.second)), .d (.str ((runDec ds).1.work.key)), .d (.int .i64 ((runDec ds).1.work.src)), .d (.int .i64 ((runDec ds).1.work.dst)), .d (.int .i64 ((runDec ds).1.work.step)), .d (.int .i64 ((runDec ds).1.turn))], .d (.bool true)]) [.ar 3 0 ((runDec ds).1.routes.map Route.pv)] := spec_of_run tt_ok mixed (impl_RunDecisions_C_Γ (64)) Try.func18 (by kernel_rfl) (mem := []) (Nat.le_of_ble_eq_true (by kernel_rfl)) (impl_RunDecisions_C_Λ (64)) ((impl_RunDecisions_run (64) (ds.map Decision.pv) _).trans ((impl_RunDecisions_ceq (64) ds _ (Nat.le_refl _) hp1).trans (by simp only [br, hb0])))
      have hs := hs.wd 3 (Nat.le_of_ble_eq_true (by kernel_rfl))
      rw [Option.some.inj hw] at hs
      exact hs
    | false =>
      simp only [br, hb0] at hw
      have hs : Spec Try.prog 18 _ [] (.tup [.agg [.nil, .d (.int .i64 0), .d (.int .i64 0), .d (.int .i64 0), .d (.int .i64 0), .d (.str ⟨#[]⟩), .d (.int .i64 0), .d (.int .i64 0), .d (.int .i64 0), .d (.int .i64 0)], .d (.bool false)]) [] := spec_of_run tt_ok mixed (impl_RunDecisions_C_Γ (64)) Try.func18 (by kernel_rfl) (mem := []) (Nat.le_of_ble_eq_true (by kernel_rfl)) (impl_RunDecisions_C_Λ (64)) ((impl_RunDecisions_run (64) (ds.map Decision.pv) _).trans ((impl_RunDecisions_ceq (64) ds _ (Nat.le_refl _) hp1).trans (by simp only [br, hb0])))
      have hs := hs.wd 3 (Nat.le_of_ble_eq_true (by kernel_rfl))
      rw [Option.some.inj hw] at hs
      exact hs
  · cases h

def Γ_impl_RunDecisions : FuncId → Option Smr := Γc 18 impl_RunDecisions_sm Γ_spec_RunDecisions
theorem Γ_impl_RunDecisions_ok : ∀ f s, Γ_impl_RunDecisions f = some s → SmrOK Try.prog f s := Γc_ok impl_RunDecisions_ok Γ_spec_RunDecisions_ok


theorem goDec_len : ∀ (ds : List Decision) (m c : Master), m.routes.length ≤ 9 → goDec m ds = some c → c.routes.length ≤ 9
  | [], m, c, h, h' => by cases h'; exact h
  | d :: ds, m, c, h, h' => by
    simp only [goDec] at h'
    split at h'
    · exact goDec_len ds _ c (applyDec_len _ _) h'
    · cases h'
theorem runDec_len (ds : List Decision) : (runDec ds).1.routes.length ≤ 9 := by
  unfold runDec
  split
  · split
    · rename_i m hm; exact goDec_len ds newMaster m (by simp [newMaster]) hm
    · simp [zMaster]
  · simp [zMaster]

/- laws.FnExactRunDecisions -/

def laws_FnExactRunDecisions_c {R : Type} (N : Nat) (xs : List (List PV)) (k : AV → List AB → Option R) : Option R :=
  bi (unDecs xs) fun ds1 =>
  chk (decide (0 ≤ (1048576 : Int)) && decide ((1048576 : Int) ≤ 1048576))
  (chk (decide (ds1.length ≤ 140737488355328))
   (chk (ds1.all (fun d => decide (d.begun.key.size ≤ 140737488355328)))
    (br (decide ((szRes (1048576 : Int) (ds1.length + dcosts ds1)) < 0))
     (k (.d (.bool true)) [])
     (bi (unDecs xs) fun ds2 =>
      chk (decide (ds2.length ≤ 1048576))
      (bi (unDecs (ds2.map Decision.pv)) fun ds3 =>
       chk (decide (ds3.length ≤ 1048576))
       (bi (unDecs xs) fun ds4 =>
        chk (decide (ds4.length ≤ 1048576))
        (bi (unDecs (ds4.map Decision.pv)) fun ds5 =>
         chk (decide (ds5.length ≤ 1048576))
         (bi (unRoutes ((runDec ds5).1.routes.map Route.pv)) fun rs6 =>
          bi (unRoutes ((runDec ds3).1.routes.map Route.pv)) fun us7 =>
          chk (decide (rs6.length ≤ 1048576))
          (chk (decide (us7.length ≤ 1048576))
           (br (!(decide (Master.mk rs6 ((runDec ds5).1.shards) ⟨((runDec ds5).1.work.kind), ((runDec ds5).1.work.first), ((runDec ds5).1.work.second), ((runDec ds5).1.work.key), ((runDec ds5).1.work.src), ((runDec ds5).1.work.dst), ((runDec ds5).1.work.step)⟩ ((runDec ds5).1.turn) = Master.mk us7 ((runDec ds3).1.shards) ⟨((runDec ds3).1.work.kind), ((runDec ds3).1.work.first), ((runDec ds3).1.work.second), ((runDec ds3).1.work.key), ((runDec ds3).1.work.src), ((runDec ds3).1.work.dst), ((runDec ds3).1.work.step)⟩ ((runDec ds3).1.turn))))
            (k (.d (.bool false)) [])
            (br (!((runDec ds5).2 == (runDec ds3).2))
             (k (.d (.bool false)) [])
             (bi (unDecs xs) fun ds8 =>
              chk (decide (ds8.length ≤ 1048576))
              (bi (unDecs (ds4.map Decision.pv)) fun ds9 =>
               bi (unDecs (ds8.map Decision.pv)) fun es10 =>
               chk (decide (ds9.length ≤ 1048576))
               (chk (decide (es10.length ≤ 1048576))
                (br (!(decide (ds9 = es10)))
                 (k (.d (.bool false)) [])
                 (bi (unDecs (ds4.map Decision.pv)) fun ds11 =>
                  chk (decide (ds11.length ≤ 1048576))
                  (chk (decide (0 ≤ (1 : Int)) && decide ((1 : Int) ≤ 100))
                   (chk (decide ((ds4.map Decision.pv).length = ((markDs ds11 (1 : Int)).map Decision.pv).length))
                    (br (decide (((1 : Int) + 8 * (ds11.length : Int)) < 0))
                     (k (.d (.bool false)) [])
                     (bi (unRoutes ((runDec ds5).1.routes.map Route.pv)) fun rs12 =>
                      bi (unRoutes ((runDec ds3).1.routes.map Route.pv)) fun us13 =>
                      chk (decide (rs12.length ≤ 1048576))
                      (chk (decide (us13.length ≤ 1048576))
                       (br (!(decide (Master.mk rs12 ((runDec ds5).1.shards) ⟨((runDec ds5).1.work.kind), ((runDec ds5).1.work.first), ((runDec ds5).1.work.second), ((runDec ds5).1.work.key), ((runDec ds5).1.work.src), ((runDec ds5).1.work.dst), ((runDec ds5).1.work.step)⟩ ((runDec ds5).1.turn) = Master.mk us13 ((runDec ds3).1.shards) ⟨((runDec ds3).1.work.kind), ((runDec ds3).1.work.first), ((runDec ds3).1.work.second), ((runDec ds3).1.work.key), ((runDec ds3).1.work.src), ((runDec ds3).1.work.dst), ((runDec ds3).1.work.step)⟩ ((runDec ds3).1.turn))))
                        (k (.d (.bool false)) [])
                        (br (!((runDec ds5).2 == (runDec ds3).2))
                         (k (.d (.bool false)) [])
                         (bi (unRoutes ((runDec ds5).1.routes.map Route.pv)) fun rs14 =>
                          chk (decide (rs14.length ≤ 1048576))
                          (chk (decide (0 ≤ (1 : Int)) && decide ((1 : Int) ≤ 100))
                           (chk (decide (((runDec ds5).1.routes.map Route.pv).length = ((markRs rs14 (1 : Int)).map Route.pv).length))
                            (bi (unRoutes ((markRs rs14 (1 : Int)).map Route.pv)) fun rs15 =>
                             chk (decide (rs15.length ≤ 1048576))
                             (chk (decide (0 ≤ (1 : Int)) && decide ((1 : Int) ≤ 100))
                              (br (decide ((heldRs rs15 (1 : Int)) < 0))
                               (k (.d (.bool false)) [])
                               (br ((heldRs rs15 (1 : Int)) != ((1 : Int) + 3 * (rs14.length : Int)))
                                (k (.d (.bool false)) [])
                                (bi (unDecs xs) fun ds16 =>
                                 chk (decide (ds16.length ≤ 1048576))
                                 (bi (unDecs (ds16.map Decision.pv)) fun ds17 =>
                                  chk (decide (ds17.length ≤ 1048576))
                                  (bi (unRoutes ((runDec ds17).1.routes.map Route.pv)) fun rs18 =>
                                   bi (unRoutes ((runDec ds3).1.routes.map Route.pv)) fun us19 =>
                                   chk (decide (rs18.length ≤ 1048576))
                                   (chk (decide (us19.length ≤ 1048576))
                                    (br (!(decide (Master.mk rs18 ((runDec ds17).1.shards) ⟨((runDec ds17).1.work.kind), ((runDec ds17).1.work.first), ((runDec ds17).1.work.second), ((runDec ds17).1.work.key), ((runDec ds17).1.work.src), ((runDec ds17).1.work.dst), ((runDec ds17).1.work.step)⟩ ((runDec ds17).1.turn) = Master.mk us19 ((runDec ds3).1.shards) ⟨((runDec ds3).1.work.kind), ((runDec ds3).1.work.first), ((runDec ds3).1.work.second), ((runDec ds3).1.work.key), ((runDec ds3).1.work.src), ((runDec ds3).1.work.dst), ((runDec ds3).1.work.step)⟩ ((runDec ds3).1.turn))))
                                     (k (.d (.bool false)) [])
                                     (br (!((runDec ds17).2 == (runDec ds3).2))
                                      (k (.d (.bool false)) [])
                                      (bi (unRoutes ((markRs rs14 (1 : Int)).map Route.pv)) fun rs20 =>
                                       chk (decide (rs20.length ≤ 1048576))
                                       (chk (decide (0 ≤ (1 : Int)) && decide ((1 : Int) ≤ 100))
                                        (br (decide ((heldRs rs20 (1 : Int)) < 0))
                                         (k (.d (.bool false)) [])
                                         (br ((heldRs rs20 (1 : Int)) != ((1 : Int) + 3 * (rs14.length : Int)))
                                          (k (.d (.bool false)) [])
                                          (k (.d (.bool true)) [])))))))))))))))))))))))))))))))))))))))))

def laws_FnExactRunDecisions_C (N : Nat) : CC := ⟨Γ_impl_RunDecisions, Λ0, Δ0, Μ0⟩

theorem laws_FnExactRunDecisions_C_Γ (N : Nat) : ∀ f s, (laws_FnExactRunDecisions_C N).Γ f = some s → SmrOK Try.prog f s := Γ_impl_RunDecisions_ok

theorem laws_FnExactRunDecisions_C_Λ (N : Nat) : ∀ c, Try.f4.body = some c → ∀ b ∈ loopsIn c, ∀ s, (laws_FnExactRunDecisions_C N).Λ (lid b) = some s → LOK Try.prog Try.f4.ntmps 0 b s :=
  LOKs_ofF (bs := []) (by kernel_rfl) LOKs_n

theorem laws_FnExactRunDecisions_run {R : Type} (N : Nat) (xs : List (List PV)) (k : AV → List AB → Option R) :
    cfunN tt (laws_FnExactRunDecisions_C N) Try.f4 0 [.d (.ls xs)] [] k = laws_FnExactRunDecisions_c N xs k := by kernel_rfl

theorem laws_FnExactRunDecisions_ceq {R : Type} (N : Nat) (ds : List Decision) (k : AV → List AB → Option R) (hp1 : (decide (ds.length ≤ 140737488355328)) = true) (hp2 : (ds.all (fun d => decide (d.begun.key.size ≤ 140737488355328))) = true) :
    laws_FnExactRunDecisions_c N (ds.map Decision.pv) k = k (.d (.bool true)) [] := by
  have hp1' := hp1
  simp only [decide_eq_true_eq] at hp1'
  have e7 : (decide ((0 : Int) ≤ 1048576) && decide ((1048576 : Int) ≤ 1048576)) = true := by decide
  simp only [laws_FnExactRunDecisions_c, Route.pv, Iv.pv, Decision.pv, Plan.pv, dInt_c, dStr_c, List.length_cons, List.length_nil, Nat.zero_add, Nat.reduceAdd, chk_beq, chk_t, br_t, br_f, bi_s, unRoutes_map, unIvs_map, unDecs_map, hp1, hp2, e7]
  by_cases h1 : szRes 1048576 (ds.length + dcosts ds) < 0
  · rw [decide_eq_true h1, br_t]
  obtain ⟨h2, h3⟩ := szRes_pos h1
  have hl : ds.length ≤ 1048576 := by omega
  rw [decide_eq_false h1, br_f]
  have hA := runDec_len ds
  generalize runDec ds = A at hA ⊢
  have e1 : decide (ds.length ≤ 1048576) = true := decide_eq_true hl
  have e2 : decide (A.1.routes.length ≤ 1048576) = true := decide_eq_true (by omega)
  have e3 : decide ((markRs A.1.routes 1).length ≤ 1048576) = true := decide_eq_true (by rw [markRs_len]; omega)
  have e4 : decide ((1 : Int) + 8 * (ds.length : Int) < 0) = false := decide_eq_false (by omega)
  have e5 : decide ((1 : Int) + 3 * (A.1.routes.length : Int) < 0) = false := decide_eq_false (by omega)
  have e6 : (decide ((0 : Int) ≤ 1) && decide ((1 : Int) ≤ 100)) = true := by decide
  simp only [e1, e2, e3, e6, Route.pv, Iv.pv, Decision.pv, Plan.pv, dInt_c, dStr_c, List.length_cons, List.length_nil, Nat.zero_add, Nat.reduceAdd, chk_beq, chk_t, br_t, br_f, bi_s, unRoutes_map, unIvs_map, unDecs_map, held_mark, markRs_len, markDs_len, List.length_map, e4, e5, decide_true, Bool.not_true, beq_self_eq_true, bne_self_eq_false]
def laws_FnExactRunDecisions_sm : Smr := ⟨[false], fun R args mem k => match nilAVs args, mem with
  | [.d (.ls xs)], [] => bi (unDecs xs) fun ds => chk (decide (ds.length ≤ 140737488355328)) (chk (ds.all (fun d => decide (d.begun.key.size ≤ 140737488355328))) (k (.d (.bool true)) []))
  | _, _ => none⟩

theorem laws_FnExactRunDecisions_ok : SmrOK Try.prog 4 laws_FnExactRunDecisions_sm := by
  intro R args mem k r h
  simp only [laws_FnExactRunDecisions_sm] at h
  generalize hA : nilAVs args = args' at h
  split at h
  · rename_i xs
    obtain ⟨ds, hd0, h1⟩ := bi_eq h
    have hd0 := unDecs_eq hd0
    subst hd0
    obtain ⟨hp1, h2⟩ := chk_eq h1
    obtain ⟨hp2, h3⟩ := chk_eq h2
    replace h := h3
    refine ⟨_, _, Spec.nl hA (spec_of_run tt_ok mixed (laws_FnExactRunDecisions_C_Γ 0) Try.func4 (by kernel_rfl) (mem := []) (Nat.le_of_ble_eq_true (by kernel_rfl)) (laws_FnExactRunDecisions_C_Λ 0) ((laws_FnExactRunDecisions_run 0 (ds.map Decision.pv) _).trans ((laws_FnExactRunDecisions_ceq 0 ds _ hp1 hp2).trans ?_))), h⟩
    rfl
  · cases h

def Γ_laws_FnExactRunDecisions : FuncId → Option Smr := Γc 4 laws_FnExactRunDecisions_sm Γ_impl_RunDecisions
theorem Γ_laws_FnExactRunDecisions_ok : ∀ f s, Γ_laws_FnExactRunDecisions f = some s → SmrOK Try.prog f s := Γc_ok laws_FnExactRunDecisions_ok Γ_impl_RunDecisions_ok

end Go.Proofs.Ytfeiaibdnnhlaaa
