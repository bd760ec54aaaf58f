import Derived.Test.Ytfeiaibdnnhlaaag2
/- Partitions, routes, plans, masters: validity. -/
set_option linter.unusedVariables false
set_option linter.unusedSimpArgs false
namespace Go.Proofs.Ytfeiaibdnnhlaaa

theorem all_r_t {n : Nat} {p : Nat → Bool} (h : ∀ j, j < n → p j = true) : (List.range n).all p = true := by simpa using h
theorem all_r_f {n j : Nat} {p : Nat → Bool} (hj : j < n) (h : p j = false) : (List.range n).all p = false := by
  rw [Bool.eq_false_iff]; intro h'; simp only [List.all_eq_true, List.mem_range] at h'; rw [h' j hj] at h; cases h
theorem all_g_t {α : Type} {l : List α} {p : α → Bool} (h : ∀ j (hj : j < l.length), p l[j] = true) : l.all p = true := by
  simp only [List.all_eq_true]
  intro x hx
  obtain ⟨j, hj, rfl⟩ := List.getElem_of_mem hx
  exact h j hj
theorem all_g_f {α : Type} {l : List α} {p : α → Bool} {j : Nat} (hj : j < l.length) (h : p l[j] = false) : l.all p = false := by
  rw [Bool.eq_false_iff]; intro h'; simp only [List.all_eq_true] at h'; rw [h' _ (List.getElem_mem hj)] at h; cases h
theorem upto_succ {p : Nat → Prop} {i : Nat} (h : ∀ j, j < i → p j) (hi : p i) : ∀ j, j < i + 1 → p j := by
  intro j hj
  by_cases e : j = i
  · subst e; exact hi
  · exact h j (by omega)

/- spec.l23Index -/

def spec_l23Index_B2 {R : Type} (N : Nat) (rec : List (List PV) → Int → Int → Option R) (list : List (List PV)) (number : Int) (vk : Int) (k1 : Int → Option R) (k2 : Option R) : Option R :=
  br (decide (vk < (list.length : Int)))
  (getC list vk fun x1 =>
   dInt .i64 x1 fun n3 r2 => dStr r2 fun s5 r4 => dStr r4 fun s7 r6 =>
   chk (Nat.beq x1.length 3)
   (br (n3 == number)
    (k1 vk)
    (rec list number (IntKind.i64.wrap (vk + 1)))))
  (k2 )

def spec_l23Index_L2 {R : Type} (N : Nat) (k1 : Int → Option R) (k2 : Option R) : Nat → List (List PV) → Int → Int → Option R
  | 0, _, _, _ => none
  | M + 1, list, number, vk => spec_l23Index_B2 N (spec_l23Index_L2 N k1 k2 M) list number vk k1 k2

def spec_l23Index_L2_x (e : Ex) : List Nat := (fun e => match e with
    | .normal => []
    | .exit id => match Nat.beq id 0 with | true => [] | false => []
    | .ret => [4]) e

def spec_l23Index_C2 (N : Nat) : CC := ⟨Γ_laws_eqMaster, Λ0, Δ0, Μ0⟩

theorem spec_l23Index_C2_Γ (N : Nat) : ∀ f s, (spec_l23Index_C2 N).Γ f = some s → SmrOK Try.prog f s := Γ_laws_eqMaster_ok

theorem spec_l23Index_C2_Λ (N : Nat) : ∀ b ∈ loopsIn (lpF Try.f37 0), ∀ s, (spec_l23Index_C2 N).Λ (lid b) = some s → LOK Try.prog 20 0 b s :=
  LOKs_of (bs := []) (by kernel_rfl) LOKs_n

theorem spec_l23Index_B2_eq {R : Type} (N : Nat) (rec : TL → List AB → Option R) (list : List (List PV)) (number : Int) (vk : Int) (k : Ex → TL → List AB → Option R) :
    (crun tt (spec_l23Index_C2 N) 20 (lpF Try.f37 0)) [(0, .d (.ls list)), (1, .d (.int .i64 number)), (5, .d (.int .i64 vk))] [] (lnext 20 0 [] [0, 1, 5] rec (lexit 20 0 spec_l23Index_L2_x k)) =
    spec_l23Index_B2 N (fun list number vk => rec [(0, .d (.ls list)), (1, .d (.int .i64 number)), (5, .d (.int .i64 vk))] []) list number vk (fun v => k (.ret) [(4, .d (.int .i64 v))] []) (k (.exit 0) [] []) := by kernel_rfl

theorem spec_l23Index_L2_eq {R : Type} (N : Nat) (k : Ex → TL → List AB → Option R) : ∀ (M : Nat) (list : List (List PV)) (number : Int) (vk : Int), loopG 20 0 [] (crun tt (spec_l23Index_C2 N) 20 (lpF Try.f37 0)) [0, 1, 5] (lexit 20 0 spec_l23Index_L2_x k) M [(0, .d (.ls list)), (1, .d (.int .i64 number)), (5, .d (.int .i64 vk))] [] =
    spec_l23Index_L2 N (fun v => k (.ret) [(4, .d (.int .i64 v))] []) (k (.exit 0) [] []) M list number vk
  | 0, _, _, _ => rfl
  | M + 1, list, number, vk => (spec_l23Index_B2_eq N (loopG 20 0 [] (crun tt (spec_l23Index_C2 N) 20 (lpF Try.f37 0)) [0, 1, 5] (lexit 20 0 spec_l23Index_L2_x k) M) list number vk k).trans (congrArg (fun rec => spec_l23Index_B2 N rec list number vk (fun v => k (.ret) [(4, .d (.int .i64 v))] []) (k (.exit 0) [] [])) (funext fun list => (funext fun number => (funext fun vk => spec_l23Index_L2_eq N k M list number vk))))

def spec_l23Index_L2_s (N : Nat) : LSum := fun R l m k => gcf 20 0 [] [0, 1, 5] l m fun l2 m2 => match l2, m2 with
  | [(z1, .d (.ls list)), (z2, .d (.int .i64 number)), (z3, .d (.int .i64 vk))], [] => chk (Nat.beq z1 0 && Nat.beq z2 1 && Nat.beq z3 5) (spec_l23Index_L2 N (fun v => k (.ret) [(4, .d (.int .i64 v))] []) (k (.exit 0) [] []) N list number vk)
  | _, _ => none

theorem spec_l23Index_L2_ok (N : Nat) : LOK Try.prog 20 0 (lpF Try.f37 0) (spec_l23Index_L2_s N) := by
  refine (lsum_ok tt_ok mixed (spec_l23Index_C2_Γ N) (spec_l23Index_C2_Λ N) [] [0, 1, 5] spec_l23Index_L2_x N).of ?_
  intro R l m k r h
  unfold spec_l23Index_L2_s at h
  refine gcf_mono ?_ h
  intro l2 m2 h
  split at h
  · obtain ⟨hc, h⟩ := chk_eq h
    simp only [Bool.and_eq_true, Nat.beq_eq_true_eq] at hc
    obtain ⟨⟨rfl, rfl⟩, rfl⟩ := hc
    rw [spec_l23Index_L2_eq]
    exact h
  · cases h

def spec_l23Index_c {R : Type} (N : Nat) (xs : List (List PV)) (x : Int) (k : AV → List AB → Option R) : Option R :=
  spec_l23Index_L2 N (fun v =>
   k (.d (.int .i64 v)) [])
  (k (.d (.int .i64 (-1))) []) N xs x 0

def spec_l23Index_C (N : Nat) : CC := ⟨Γ_laws_eqMaster, (Λc 2 (spec_l23Index_L2_s N) Λ0), Δ0, Μ0⟩

theorem spec_l23Index_C_Γ (N : Nat) : ∀ f s, (spec_l23Index_C N).Γ f = some s → SmrOK Try.prog f s := Γ_laws_eqMaster_ok

theorem spec_l23Index_C_Λ (N : Nat) : ∀ c, Try.f37.body = some c → ∀ b ∈ loopsIn c, ∀ s, (spec_l23Index_C N).Λ (lid b) = some s → LOK Try.prog Try.f37.ntmps 0 b s :=
  LOKs_ofF (bs := [(lpF Try.f37 0)]) (by kernel_rfl) (LOKs_c (l := spec_l23Index_L2_s N) (by kernel_rfl) (spec_l23Index_L2_ok N) LOKs_n)

theorem spec_l23Index_run {R : Type} (N : Nat) (xs : List (List PV)) (x : Int) (k : AV → List AB → Option R) :
    cfunN tt (spec_l23Index_C N) Try.f37 0 [.d (.ls xs), .d (.int .i64 x)] [] k = spec_l23Index_c N xs x k := by kernel_rfl

theorem l23Index_loop {R : Type} (N : Nat) (rs : List Route) (x : Int) (hl : rs.length ≤ 1048576) (k1 : Int → Option R) (k2 : Option R) : ∀ (M i : Nat), i ≤ rs.length → rs.length < i + M → (∀ j, j < i → ∀ h : j < rs.length, ¬ rs[j].number = x) →
    spec_l23Index_L2 N k1 k2 M (rs.map Route.pv) x (i : Int) = match rIndex rs x with | some j => k1 (j : Int) | none => k2
  | 0, i, h1, h2, _ => by omega
  | M + 1, i, h1, h2, h3 => by
    simp only [spec_l23Index_L2, spec_l23Index_B2, List.length_map]
    by_cases h : i < rs.length
    · rw [lt_t h, br_t, getC_map h]
      simp only [Route.pv, Iv.pv, dInt_c, dStr_c, List.length_cons, List.length_nil, Nat.zero_add, Nat.reduceAdd, chk_beq, chk_t, br_t, br_f, bi_s, unRoutes_map, unIvs_map]
      by_cases h5 : rs[i].number = x
      · rw [show (rs[i].number == x) = true by simpa using h5, br_t, idx_some h h5 (fun j hj hji => h3 j hji hj)]
      · rw [show (rs[i].number == x) = false by simpa using h5, br_f, wrap_s (by omega)]
        exact l23Index_loop N rs x hl k1 k2 M (i + 1) (by omega) (by omega) (upto_succ h3 (fun _ => h5))
    · rw [lt_f h, br_f, idx_none (fun j hj => h3 j (by omega) hj)]
theorem spec_l23Index_ceq {R : Type} (N : Nat) (x : Int) (rs : List Route) (k : AV → List AB → Option R) (hN : rs.length + 1 ≤ N) (hp1 : (decide (rs.length ≤ 1048576)) = true) :
    spec_l23Index_c N (rs.map Route.pv) x k = k (.d (.int .i64 (idx (rIndex rs x)))) [] := by
  simp only [decide_eq_true_eq] at hp1
  refine (l23Index_loop N rs x hp1 _ _ N 0 (by omega) (by omega) (fun j hj => by omega)).trans ?_
  cases rIndex rs x <;> rfl
def spec_l23Index_sm : Smr := ⟨[false, false], fun R args mem k => match nilAVs args, mem with
  | [.d (.ls xs), .d (.int .i64 x)], [] => bi (unRoutes xs) fun rs => chk (decide (rs.length ≤ 1048576)) (k (.d (.int .i64 (idx (rIndex rs x)))) [])
  | _, _ => none⟩

theorem spec_l23Index_ok : SmrOK Try.prog 37 spec_l23Index_sm := by
  intro R args mem k r h
  simp only [spec_l23Index_sm] at h
  generalize hA : nilAVs args = args' at h
  split at h
  · rename_i xs x
    obtain ⟨rs, hd0, h1⟩ := bi_eq h
    have hd0 := unRoutes_eq hd0
    subst hd0
    obtain ⟨hp1, h2⟩ := chk_eq h1
    replace h := h2
    refine ⟨_, _, Spec.nl hA (spec_of_run tt_ok mixed (spec_l23Index_C_Γ (rs.length + 1)) Try.func37 (by kernel_rfl) (mem := []) (Nat.le_of_ble_eq_true (by kernel_rfl)) (spec_l23Index_C_Λ (rs.length + 1)) ((spec_l23Index_run (rs.length + 1) (rs.map Route.pv) x _).trans ((spec_l23Index_ceq (rs.length + 1) x rs _ (Nat.le_refl _) hp1).trans ?_))), h⟩
    rfl
  · cases h

def Γ_spec_l23Index : FuncId → Option Smr := Γc 37 spec_l23Index_sm Γ_laws_eqMaster
theorem Γ_spec_l23Index_ok : ∀ f s, Γ_spec_l23Index f = some s → SmrOK Try.prog f s := Γc_ok spec_l23Index_ok Γ_laws_eqMaster_ok


/- impl.routePlace -/

def impl_routePlace_B2 {R : Type} (N : Nat) (rec : Int → List (List PV) → Int → Int → Option R) (number : Int) (v : List (List PV)) (v_1 : Int) (v_2 : Int) (k1 : Int → Option R) (k2 : Option R) : Option R :=
  br (decide (v_2 < v_1))
  (getC v v_2 fun x1 =>
   dInt .i64 x1 fun n3 r2 => dStr r2 fun s5 r4 => dStr r4 fun s7 r6 =>
   chk (Nat.beq x1.length 3)
   (br (n3 == number)
    (k1 v_2)
    (rec number v v_1 (IntKind.i64.wrap (v_2 + 1)))))
  (k2 )

def impl_routePlace_L2 {R : Type} (N : Nat) (k1 : Int → Option R) (k2 : Option R) : Nat → Int → List (List PV) → Int → Int → Option R
  | 0, _, _, _, _ => none
  | M + 1, number, v, v_1, v_2 => impl_routePlace_B2 N (impl_routePlace_L2 N k1 k2 M) number v v_1 v_2 k1 k2

def impl_routePlace_L2_x (e : Ex) : List Nat := (fun e => match e with
    | .normal => []
    | .exit id => match Nat.beq id 0 with | true => [] | false => []
    | .ret => [4]) e

def impl_routePlace_C2 (N : Nat) : CC := ⟨Γ_spec_l23Index, Λ0, Δ0, Μ0⟩

theorem impl_routePlace_C2_Γ (N : Nat) : ∀ f s, (impl_routePlace_C2 N).Γ f = some s → SmrOK Try.prog f s := Γ_spec_l23Index_ok

theorem impl_routePlace_C2_Λ (N : Nat) : ∀ b ∈ loopsIn (lpF Try.f86 0), ∀ s, (impl_routePlace_C2 N).Λ (lid b) = some s → LOK Try.prog 20 0 b s :=
  LOKs_of (bs := []) (by kernel_rfl) LOKs_n

theorem impl_routePlace_B2_eq {R : Type} (N : Nat) (rec : TL → List AB → Option R) (number : Int) (v : List (List PV)) (v_1 : Int) (v_2 : Int) (k : Ex → TL → List AB → Option R) :
    (crun tt (impl_routePlace_C2 N) 20 (lpF Try.f86 0)) [(1, .d (.int .i64 number)), (7, .d (.ls v)), (8, .d (.int .i64 v_1)), (9, .d (.int .i64 v_2))] [] (lnext 20 0 [] [1, 7, 8, 9] rec (lexit 20 0 impl_routePlace_L2_x k)) =
    impl_routePlace_B2 N (fun number v v_1 v_2 => rec [(1, .d (.int .i64 number)), (7, .d (.ls v)), (8, .d (.int .i64 v_1)), (9, .d (.int .i64 v_2))] []) number v v_1 v_2 (fun v => k (.ret) [(4, .d (.int .i64 v))] []) (k (.exit 0) [] []) := by kernel_rfl

theorem impl_routePlace_L2_eq {R : Type} (N : Nat) (k : Ex → TL → List AB → Option R) : ∀ (M : Nat) (number : Int) (v : List (List PV)) (v_1 : Int) (v_2 : Int), loopG 20 0 [] (crun tt (impl_routePlace_C2 N) 20 (lpF Try.f86 0)) [1, 7, 8, 9] (lexit 20 0 impl_routePlace_L2_x k) M [(1, .d (.int .i64 number)), (7, .d (.ls v)), (8, .d (.int .i64 v_1)), (9, .d (.int .i64 v_2))] [] =
    impl_routePlace_L2 N (fun v => k (.ret) [(4, .d (.int .i64 v))] []) (k (.exit 0) [] []) M number v v_1 v_2
  | 0, _, _, _, _ => rfl
  | M + 1, number, v, v_1, v_2 => (impl_routePlace_B2_eq N (loopG 20 0 [] (crun tt (impl_routePlace_C2 N) 20 (lpF Try.f86 0)) [1, 7, 8, 9] (lexit 20 0 impl_routePlace_L2_x k) M) number v v_1 v_2 k).trans (congrArg (fun rec => impl_routePlace_B2 N rec number v v_1 v_2 (fun v => k (.ret) [(4, .d (.int .i64 v))] []) (k (.exit 0) [] [])) (funext fun number => (funext fun v => (funext fun v_1 => (funext fun v_2 => impl_routePlace_L2_eq N k M number v v_1 v_2)))))

def impl_routePlace_L2_s (N : Nat) : LSum := fun R l m k => gcf 20 0 [] [1, 7, 8, 9] l m fun l2 m2 => match l2, m2 with
  | [(z1, .d (.int .i64 number)), (z2, .d (.ls v)), (z3, .d (.int .i64 v_1)), (z4, .d (.int .i64 v_2))], [] => chk (Nat.beq z1 1 && Nat.beq z2 7 && Nat.beq z3 8 && Nat.beq z4 9) (impl_routePlace_L2 N (fun v => k (.ret) [(4, .d (.int .i64 v))] []) (k (.exit 0) [] []) N number v v_1 v_2)
  | _, _ => none

theorem impl_routePlace_L2_ok (N : Nat) : LOK Try.prog 20 0 (lpF Try.f86 0) (impl_routePlace_L2_s N) := by
  refine (lsum_ok tt_ok mixed (impl_routePlace_C2_Γ N) (impl_routePlace_C2_Λ N) [] [1, 7, 8, 9] impl_routePlace_L2_x N).of ?_
  intro R l m k r h
  unfold impl_routePlace_L2_s at h
  refine gcf_mono ?_ h
  intro l2 m2 h
  split at h
  · obtain ⟨hc, h⟩ := chk_eq h
    simp only [Bool.and_eq_true, Nat.beq_eq_true_eq] at hc
    obtain ⟨⟨⟨rfl, rfl⟩, rfl⟩, rfl⟩ := hc
    rw [impl_routePlace_L2_eq]
    exact h
  · cases h

def impl_routePlace_c {R : Type} (N : Nat) (xs : List (List PV)) (x : Int) (k : AV → List AB → Option R) : Option R :=
  impl_routePlace_L2 N (fun v =>
   k (.d (.int .i64 v)) [])
  (k (.d (.int .i64 (-1))) []) N x xs (xs.length : Int) 0

def impl_routePlace_C (N : Nat) : CC := ⟨Γ_spec_l23Index, (Λc 2 (impl_routePlace_L2_s N) Λ0), Δ0, Μ0⟩

theorem impl_routePlace_C_Γ (N : Nat) : ∀ f s, (impl_routePlace_C N).Γ f = some s → SmrOK Try.prog f s := Γ_spec_l23Index_ok

theorem impl_routePlace_C_Λ (N : Nat) : ∀ c, Try.f86.body = some c → ∀ b ∈ loopsIn c, ∀ s, (impl_routePlace_C N).Λ (lid b) = some s → LOK Try.prog Try.f86.ntmps 0 b s :=
  LOKs_ofF (bs := [(lpF Try.f86 0)]) (by kernel_rfl) (LOKs_c (l := impl_routePlace_L2_s N) (by kernel_rfl) (impl_routePlace_L2_ok N) LOKs_n)

theorem impl_routePlace_run {R : Type} (N : Nat) (xs : List (List PV)) (x : Int) (k : AV → List AB → Option R) :
    cfunN tt (impl_routePlace_C N) Try.f86 0 [.d (.ls xs), .d (.int .i64 x)] [] k = impl_routePlace_c N xs x k := by kernel_rfl

theorem routePlace_loop {R : Type} (N : Nat) (rs : List Route) (x : Int) (hl : rs.length ≤ 1048576) (k1 : Int → Option R) (k2 : Option R) : ∀ (M i : Nat), i ≤ rs.length → rs.length < i + M → (∀ j, j < i → ∀ h : j < rs.length, ¬ rs[j].number = x) →
    impl_routePlace_L2 N k1 k2 M x (rs.map Route.pv) rs.length (i : Int) = match rIndex rs x with | some j => k1 (j : Int) | none => k2
  | 0, i, h1, h2, _ => by omega
  | M + 1, i, h1, h2, h3 => by
    simp only [impl_routePlace_L2, impl_routePlace_B2]
    by_cases h : i < rs.length
    · rw [lt_t h, br_t, getC_map h]
      simp only [Route.pv, Iv.pv, dInt_c, dStr_c, List.length_cons, List.length_nil, Nat.zero_add, Nat.reduceAdd, chk_beq, chk_t, br_t, br_f, bi_s, unRoutes_map, unIvs_map]
      by_cases h5 : rs[i].number = x
      · rw [show (rs[i].number == x) = true by simpa using h5, br_t, idx_some h h5 (fun j hj hji => h3 j hji hj)]
      · rw [show (rs[i].number == x) = false by simpa using h5, br_f, wrap_s (by omega)]
        exact routePlace_loop N rs x hl k1 k2 M (i + 1) (by omega) (by omega) (upto_succ h3 (fun _ => h5))
    · rw [lt_f h, br_f, idx_none (fun j hj => h3 j (by omega) hj)]
theorem impl_routePlace_ceq {R : Type} (N : Nat) (x : Int) (rs : List Route) (k : AV → List AB → Option R) (hN : rs.length + 1 ≤ N) (hp1 : (decide (rs.length ≤ 1048576)) = true) :
    impl_routePlace_c N (rs.map Route.pv) x k = k (.d (.int .i64 (idx (rIndex rs x)))) [] := by
  simp only [decide_eq_true_eq] at hp1
  simp only [impl_routePlace_c, List.length_map]
  refine (routePlace_loop N rs x hp1 _ _ N 0 (by omega) (by omega) (fun j hj => by omega)).trans ?_
  cases rIndex rs x <;> rfl
def impl_routePlace_sm : Smr := ⟨[false, false], fun R args mem k => match nilAVs args, mem with
  | [.d (.ls xs), .d (.int .i64 x)], [] => bi (unRoutes xs) fun rs => chk (decide (rs.length ≤ 1048576)) (k (.d (.int .i64 (idx (rIndex rs x)))) [])
  | _, _ => none⟩

theorem impl_routePlace_ok : SmrOK Try.prog 86 impl_routePlace_sm := by
  intro R args mem k r h
  simp only [impl_routePlace_sm] at h
  generalize hA : nilAVs args = args' at h
  split at h
  · rename_i xs x
    obtain ⟨rs, hd0, h1⟩ := bi_eq h
    have hd0 := unRoutes_eq hd0
    subst hd0
    obtain ⟨hp1, h2⟩ := chk_eq h1
    replace h := h2
    refine ⟨_, _, Spec.nl hA (spec_of_run tt_ok mixed (impl_routePlace_C_Γ (rs.length + 1)) Try.func86 (by kernel_rfl) (mem := []) (Nat.le_of_ble_eq_true (by kernel_rfl)) (impl_routePlace_C_Λ (rs.length + 1)) ((impl_routePlace_run (rs.length + 1) (rs.map Route.pv) x _).trans ((impl_routePlace_ceq (rs.length + 1) x rs _ (Nat.le_refl _) hp1).trans ?_))), h⟩
    rfl
  · cases h

def Γ_impl_routePlace : FuncId → Option Smr := Γc 86 impl_routePlace_sm Γ_spec_l23Index
theorem Γ_impl_routePlace_ok : ∀ f s, Γ_impl_routePlace f = some s → SmrOK Try.prog f s := Γc_ok impl_routePlace_ok Γ_spec_l23Index_ok


/- impl.spansOf -/

def impl_spansOf_B3 {R : Type} (N : Nat) (rec : List (List PV) → Int → Int → List (List PV) → Option R) (v : List (List PV)) (v_1 : Int) (v_2 : Int) (c0 : List (List PV)) (k1 : List (List PV) → Option R) : Option R :=
  br (decide (v_2 < v_1))
  (getC v v_2 fun x8 =>
   dInt .i64 x8 fun n10 r9 => dStr r9 fun s12 r11 => dStr r11 fun s14 r13 =>
   chk (Nat.beq x8.length 3)
   (chk (clim (c0.length + 1) 32)
    (rec v v_1 (IntKind.i64.wrap (v_2 + 1)) (c0 ++ ([[.str s12, .str s14]] : List (List PV))))))
  (k1 c0)

def impl_spansOf_L3 {R : Type} (N : Nat) (k1 : List (List PV) → Option R) : Nat → List (List PV) → Int → Int → List (List PV) → Option R
  | 0, _, _, _, _ => none
  | M + 1, v, v_1, v_2, c0 => impl_spansOf_B3 N (impl_spansOf_L3 N k1 M) v v_1 v_2 c0 k1

def impl_spansOf_L3_x (e : Ex) : List Nat := (fun e => match e with
    | .normal => []
    | .exit id => match Nat.beq id 0 with | true => [3] | false => []
    | .ret => []) e

def impl_spansOf_C3 (N : Nat) : CC := ⟨Γ_impl_routePlace, Λ0, Δ0, Μ0⟩

theorem impl_spansOf_C3_Γ (N : Nat) : ∀ f s, (impl_spansOf_C3 N).Γ f = some s → SmrOK Try.prog f s := Γ_impl_routePlace_ok

theorem impl_spansOf_C3_Λ (N : Nat) : ∀ b ∈ loopsIn (lpF Try.f117 0), ∀ s, (impl_spansOf_C3 N).Λ (lid b) = some s → LOK Try.prog 19 0 b s :=
  LOKs_of (bs := []) (by kernel_rfl) LOKs_n

theorem impl_spansOf_B3_eq {R : Type} (N : Nat) (rec : TL → List AB → Option R) (v : List (List PV)) (v_1 : Int) (v_2 : Int) (c0 : List (List PV)) (k : Ex → TL → List AB → Option R) :
    (crun tt (impl_spansOf_C3 N) 19 (lpF Try.f117 0)) [(3, .sl 0), (6, .d (.ls v)), (7, .d (.int .i64 v_1)), (8, .d (.int .i64 v_2))] [.ar 2 0 c0] (lnext 19 0 [(3, 2)] [3, 6, 7, 8] rec (lexit 19 0 impl_spansOf_L3_x k)) =
    impl_spansOf_B3 N (fun v v_1 v_2 c0 => rec [(3, .sl 0), (6, .d (.ls v)), (7, .d (.int .i64 v_1)), (8, .d (.int .i64 v_2))] [.ar 2 0 c0]) v v_1 v_2 c0 (fun c0 => k (.exit 0) [(3, .sl 0)] [.ar 2 0 c0]) := by kernel_rfl

theorem impl_spansOf_L3_eq {R : Type} (N : Nat) (k : Ex → TL → List AB → Option R) : ∀ (M : Nat) (v : List (List PV)) (v_1 : Int) (v_2 : Int) (c0 : List (List PV)), loopG 19 0 [(3, 2)] (crun tt (impl_spansOf_C3 N) 19 (lpF Try.f117 0)) [3, 6, 7, 8] (lexit 19 0 impl_spansOf_L3_x k) M [(3, .sl 0), (6, .d (.ls v)), (7, .d (.int .i64 v_1)), (8, .d (.int .i64 v_2))] [.ar 2 0 c0] =
    impl_spansOf_L3 N (fun c0 => k (.exit 0) [(3, .sl 0)] [.ar 2 0 c0]) M v v_1 v_2 c0
  | 0, _, _, _, _ => rfl
  | M + 1, v, v_1, v_2, c0 => (impl_spansOf_B3_eq N (loopG 19 0 [(3, 2)] (crun tt (impl_spansOf_C3 N) 19 (lpF Try.f117 0)) [3, 6, 7, 8] (lexit 19 0 impl_spansOf_L3_x k) M) v v_1 v_2 c0 k).trans (congrArg (fun rec => impl_spansOf_B3 N rec v v_1 v_2 c0 (fun c0 => k (.exit 0) [(3, .sl 0)] [.ar 2 0 c0])) (funext fun v => (funext fun v_1 => (funext fun v_2 => (funext fun c0 => impl_spansOf_L3_eq N k M v v_1 v_2 c0)))))

def impl_spansOf_L3_s (N : Nat) : LSum := fun R l m k => gcf 19 0 [(3, 2)] [3, 6, 7, 8] l m fun l2 m2 => match l2, m2 with
  | [(z1, .sl z2), (z3, .d (.ls v)), (z4, .d (.int .i64 v_1)), (z5, .d (.int .i64 v_2))], [.ar z6 z7 c0] => chk (Nat.beq z1 3 && Nat.beq z2 0 && Nat.beq z3 6 && Nat.beq z4 7 && Nat.beq z5 8 && Nat.beq z6 2 && Nat.beq z7 0) (impl_spansOf_L3 N (fun c0 => k (.exit 0) [(3, .sl 0)] [.ar 2 0 c0]) N v v_1 v_2 c0)
  | _, _ => none

theorem impl_spansOf_L3_ok (N : Nat) : LOK Try.prog 19 0 (lpF Try.f117 0) (impl_spansOf_L3_s N) := by
  refine (lsum_ok tt_ok mixed (impl_spansOf_C3_Γ N) (impl_spansOf_C3_Λ N) [(3, 2)] [3, 6, 7, 8] impl_spansOf_L3_x N).of ?_
  intro R l m k r h
  unfold impl_spansOf_L3_s at h
  refine gcf_mono ?_ h
  intro l2 m2 h
  split at h
  · obtain ⟨hc, h⟩ := chk_eq h
    simp only [Bool.and_eq_true, Nat.beq_eq_true_eq] at hc
    obtain ⟨⟨⟨⟨⟨⟨rfl, rfl⟩, rfl⟩, rfl⟩, rfl⟩, rfl⟩, rfl⟩ := hc
    rw [impl_spansOf_L3_eq]
    exact h
  · cases h

def impl_spansOf_c {R : Type} (N : Nat) (xs : List (List PV)) (k : AV → List AB → Option R) : Option R :=
  impl_spansOf_L3 N (fun c0 =>
   k (.sl 0) [.ar 2 0 c0]) N xs (xs.length : Int) 0 ([] : List (List PV))

def impl_spansOf_C (N : Nat) : CC := ⟨Γ_impl_routePlace, (Λc 3 (impl_spansOf_L3_s N) Λ0), Δ0, Μ0⟩

theorem impl_spansOf_C_Γ (N : Nat) : ∀ f s, (impl_spansOf_C N).Γ f = some s → SmrOK Try.prog f s := Γ_impl_routePlace_ok

theorem impl_spansOf_C_Λ (N : Nat) : ∀ c, Try.f117.body = some c → ∀ b ∈ loopsIn c, ∀ s, (impl_spansOf_C N).Λ (lid b) = some s → LOK Try.prog Try.f117.ntmps 0 b s :=
  LOKs_ofF (bs := [(lpF Try.f117 0)]) (by kernel_rfl) (LOKs_c (l := impl_spansOf_L3_s N) (by kernel_rfl) (impl_spansOf_L3_ok N) LOKs_n)

theorem impl_spansOf_run {R : Type} (N : Nat) (xs : List (List PV)) (k : AV → List AB → Option R) :
    cfunN tt (impl_spansOf_C N) Try.f117 0 [.d (.ls xs)] [] k = impl_spansOf_c N xs k := by kernel_rfl

theorem spansOf_loop {R : Type} (N : Nat) (rs : List Route) (hl : rs.length ≤ 1048576) (k1 : List (List PV) → Option R) : ∀ (M i : Nat), i ≤ rs.length → rs.length < i + M →
    impl_spansOf_L3 N k1 M (rs.map Route.pv) rs.length (i : Int) (((rs.take i).map Route.iv).map Iv.pv) = k1 ((rs.map Route.iv).map Iv.pv)
  | 0, i, h1, h2 => by omega
  | M + 1, i, h1, h2 => by
    simp only [impl_spansOf_L3, impl_spansOf_B3]
    by_cases h : i < rs.length
    · rw [lt_t h, br_t, getC_map h]
      simp only [Route.pv, Iv.pv, dInt_c, dStr_c, List.length_cons, List.length_nil, Nat.zero_add, Nat.reduceAdd, chk_beq, chk_t, br_t, br_f, bi_s, unRoutes_map, unIvs_map]
      rw [clim_t (by simp only [List.length_map, List.length_take]; omega), chk_t, wrap_s (by omega)]
      rw [← spansOf_loop N rs hl k1 M (i + 1) (by omega) (by omega), List.take_succ_eq_append_getElem h]
      simp only [List.map_append, List.map_cons, List.map_nil]
      rfl
    · rw [lt_f h, br_f, List.take_of_length_le (by omega)]
theorem impl_spansOf_ceq {R : Type} (N : Nat) (rs : List Route) (k : AV → List AB → Option R) (hN : rs.length + 1 ≤ N) (hp1 : (decide (rs.length ≤ 1048576)) = true) :
    impl_spansOf_c N (rs.map Route.pv) k = k (.sl 0) [.ar 2 0 ((rs.map Route.iv).map Iv.pv)] := by
  simp only [decide_eq_true_eq] at hp1
  simp only [impl_spansOf_c, List.length_map]
  exact spansOf_loop N rs hp1 _ N 0 (by omega) (by omega)
def impl_spansOf_sm : Smr := ⟨[false], fun R args mem k => match nilAVs args, mem with
  | [.d (.ls xs)], [] => bi (unRoutes xs) fun rs => chk (decide (rs.length ≤ 1048576)) (k (.sl 0) [.ar 2 0 ((rs.map Route.iv).map Iv.pv)])
  | _, _ => none⟩

theorem impl_spansOf_ok : SmrOK Try.prog 117 impl_spansOf_sm := by
  intro R args mem k r h
  simp only [impl_spansOf_sm] at h
  generalize hA : nilAVs args = args' at h
  split at h
  · rename_i xs
    obtain ⟨rs, hd0, h1⟩ := bi_eq h
    have hd0 := unRoutes_eq hd0
    subst hd0
    obtain ⟨hp1, h2⟩ := chk_eq h1
    replace h := h2
    refine ⟨_, _, Spec.nl hA (spec_of_run tt_ok mixed (impl_spansOf_C_Γ (rs.length + 1)) Try.func117 (by kernel_rfl) (mem := []) (Nat.le_of_ble_eq_true (by kernel_rfl)) (impl_spansOf_C_Λ (rs.length + 1)) ((impl_spansOf_run (rs.length + 1) (rs.map Route.pv) _).trans ((impl_spansOf_ceq (rs.length + 1) rs _ (Nat.le_refl _) hp1).trans ?_))), h⟩
    rfl
  · cases h

def Γ_impl_spansOf : FuncId → Option Smr := Γc 117 impl_spansOf_sm Γ_impl_routePlace
theorem Γ_impl_spansOf_ok : ∀ f s, Γ_impl_spansOf f = some s → SmrOK Try.prog f s := Γc_ok impl_spansOf_ok Γ_impl_routePlace_ok


/- impl.shardNumber -/

def impl_shardNumber_c {R : Type} (N : Nat) (n : Int) (k : AV → List AB → Option R) : Option R :=
  br (decide (n ≥ 0))
  (k (.d (.bool (decide (n < 8)))) [])
  (k (.d (.bool false)) [])

def impl_shardNumber_C (N : Nat) : CC := ⟨Γ_impl_spansOf, Λ0, Δ0, Μ0⟩

theorem impl_shardNumber_C_Γ (N : Nat) : ∀ f s, (impl_shardNumber_C N).Γ f = some s → SmrOK Try.prog f s := Γ_impl_spansOf_ok

theorem impl_shardNumber_C_Λ (N : Nat) : ∀ c, Try.f119.body = some c → ∀ b ∈ loopsIn c, ∀ s, (impl_shardNumber_C N).Λ (lid b) = some s → LOK Try.prog Try.f119.ntmps 0 b s :=
  LOKs_ofF (bs := []) (by kernel_rfl) LOKs_n

theorem impl_shardNumber_run {R : Type} (N : Nat) (n : Int) (k : AV → List AB → Option R) :
    cfunN tt (impl_shardNumber_C N) Try.f119 0 [.d (.int .i64 n)] [] k = impl_shardNumber_c N n k := by kernel_rfl

theorem impl_shardNumber_ceq {R : Type} (N : Nat) (n : Int) (k : AV → List AB → Option R) :
    impl_shardNumber_c N n k = k (.d (.bool (decide (0 ≤ n) && decide (n < 8)))) [] := by
  simp only [impl_shardNumber_c, br_kb]
  congr 3
  show (bif decide (0 ≤ n) then decide (n < 8) else false) = _
  cases decide (0 ≤ n) <;> rfl
def impl_shardNumber_sm : Smr := ⟨[false], fun R args mem k => match nilAVs args, mem with
  | [.d (.int .i64 n)], [] => k (.d (.bool (decide (0 ≤ n) && decide (n < 8)))) []
  | _, _ => none⟩

theorem impl_shardNumber_ok : SmrOK Try.prog 119 impl_shardNumber_sm := by
  intro R args mem k r h
  simp only [impl_shardNumber_sm] at h
  generalize hA : nilAVs args = args' at h
  split at h
  · rename_i n
    refine ⟨_, _, Spec.nl hA (spec_of_run tt_ok mixed (impl_shardNumber_C_Γ 0) Try.func119 (by kernel_rfl) (mem := []) (Nat.le_of_ble_eq_true (by kernel_rfl)) (impl_shardNumber_C_Λ 0) ((impl_shardNumber_run 0 n _).trans ((impl_shardNumber_ceq 0 n _).trans ?_))), h⟩
    rfl
  · cases h

def Γ_impl_shardNumber : FuncId → Option Smr := Γc 119 impl_shardNumber_sm Γ_impl_spansOf
theorem Γ_impl_shardNumber_ok : ∀ f s, Γ_impl_shardNumber f = some s → SmrOK Try.prog f s := Γc_ok impl_shardNumber_ok Γ_impl_spansOf_ok

/- impl.nodeValid -/

def impl_nodeValid_c {R : Type} (N : Nat) (n : Int) (k : AV → List AB → Option R) : Option R :=
  br (decide (n ≥ 0))
  (k (.d (.bool (decide (n < 5)))) [])
  (k (.d (.bool false)) [])

def impl_nodeValid_C (N : Nat) : CC := ⟨Γ_impl_shardNumber, Λ0, Δ0, Μ0⟩

theorem impl_nodeValid_C_Γ (N : Nat) : ∀ f s, (impl_nodeValid_C N).Γ f = some s → SmrOK Try.prog f s := Γ_impl_shardNumber_ok

theorem impl_nodeValid_C_Λ (N : Nat) : ∀ c, Try.f120.body = some c → ∀ b ∈ loopsIn c, ∀ s, (impl_nodeValid_C N).Λ (lid b) = some s → LOK Try.prog Try.f120.ntmps 0 b s :=
  LOKs_ofF (bs := []) (by kernel_rfl) LOKs_n

theorem impl_nodeValid_run {R : Type} (N : Nat) (n : Int) (k : AV → List AB → Option R) :
    cfunN tt (impl_nodeValid_C N) Try.f120 0 [.d (.int .i64 n)] [] k = impl_nodeValid_c N n k := by kernel_rfl

theorem impl_nodeValid_ceq {R : Type} (N : Nat) (n : Int) (k : AV → List AB → Option R) :
    impl_nodeValid_c N n k = k (.d (.bool (decide (0 ≤ n) && decide (n < 5)))) [] := by
  simp only [impl_nodeValid_c, br_kb]
  congr 3
  show (bif decide (0 ≤ n) then decide (n < 5) else false) = _
  cases decide (0 ≤ n) <;> rfl
def impl_nodeValid_sm : Smr := ⟨[false], fun R args mem k => match nilAVs args, mem with
  | [.d (.int .i64 n)], [] => k (.d (.bool (decide (0 ≤ n) && decide (n < 5)))) []
  | _, _ => none⟩

theorem impl_nodeValid_ok : SmrOK Try.prog 120 impl_nodeValid_sm := by
  intro R args mem k r h
  simp only [impl_nodeValid_sm] at h
  generalize hA : nilAVs args = args' at h
  split at h
  · rename_i n
    refine ⟨_, _, Spec.nl hA (spec_of_run tt_ok mixed (impl_nodeValid_C_Γ 0) Try.func120 (by kernel_rfl) (mem := []) (Nat.le_of_ble_eq_true (by kernel_rfl)) (impl_nodeValid_C_Λ 0) ((impl_nodeValid_run 0 n _).trans ((impl_nodeValid_ceq 0 n _).trans ?_))), h⟩
    rfl
  · cases h

def Γ_impl_nodeValid : FuncId → Option Smr := Γc 120 impl_nodeValid_sm Γ_impl_shardNumber
theorem Γ_impl_nodeValid_ok : ∀ f s, Γ_impl_nodeValid f = some s → SmrOK Try.prog f s := Γc_ok impl_nodeValid_ok Γ_impl_shardNumber_ok


theorem rIndex_take {rs : List Route} {i : Nat} (h : i < rs.length) : decide (idx (rIndex (rs.take i) rs[i].number) ≥ 0) = !(List.range i).all fun j => !decide ((rAt rs j).number = (rAt rs i).number) := by
  by_cases hx : ∃ j, j < i ∧ (rAt rs j).number = (rAt rs i).number
  · obtain ⟨j, hj, he⟩ := hx
    rw [all_r_f hj (by simp [he])]
    have : ∃ j, rIndex (rs.take i) rs[i].number = some j := by
      rw [rAt_get (by omega), rAt_get h] at he
      rw [← Option.isSome_iff_exists]
      unfold rIndex
      rw [List.findIdx?_isSome]
      simp only [List.any_eq_true, decide_eq_true_eq]
      exact ⟨rs[j], List.mem_take_iff_getElem.2 ⟨j, by omega, rfl⟩, he⟩
    obtain ⟨q, hq⟩ := this
    rw [hq]; simp [idx]
  · rw [all_r_t (fun j hj => by simpa using fun e => hx ⟨j, hj, e⟩), idx_none]
    · simp [idx]
    · intro j hj
      simp only [List.length_take] at hj
      rw [List.getElem_take]
      intro e
      exact hx ⟨j, by omega, by rw [rAt_get (by omega), rAt_get h, e]⟩

def numOk (rs : List Route) (i : Nat) : Bool := decide (0 ≤ (rAt rs i).number) && decide ((rAt rs i).number < 8) && (List.range i).all fun j => !decide ((rAt rs j).number = (rAt rs i).number)
theorem numsOk_eq (rs : List Route) : numsOk rs = (List.range rs.length).all (numOk rs) := rfl

/- impl.numbersDiffer -/

def impl_numbersDiffer_B2 {R : Type} (N : Nat) (rec : List (List PV) → List (List PV) → Int → Int → Option R) (list : List (List PV)) (v : List (List PV)) (v_1 : Int) (v_2 : Int) (k1 : Bool → Option R) (k2 : Option R) : Option R :=
  br (decide (v_2 < v_1))
  (getC v v_2 fun x1 =>
   dInt .i64 x1 fun n3 r2 => dStr r2 fun s5 r4 => dStr r4 fun s7 r6 =>
   chk (Nat.beq x1.length 3)
   (br (!(decide (0 ≤ n3) && decide (n3 < 8)))
    (k1 false)
    (chk (widthOk 3 list)
     (chk (decide (0 ≤ v_2) && decide (v_2 ≤ (list.length : Int)))
      (bi (unRoutes ((list.drop 0).take (v_2.toNat - 0))) fun rs8 =>
       chk (decide (rs8.length ≤ 1048576))
       (br (decide ((idx (rIndex rs8 n3)) ≥ 0))
        (k1 false)
        (rec list v v_1 (IntKind.i64.wrap (v_2 + 1)))))))))
  (k2 )

def impl_numbersDiffer_L2 {R : Type} (N : Nat) (k1 : Bool → Option R) (k2 : Option R) : Nat → List (List PV) → List (List PV) → Int → Int → Option R
  | 0, _, _, _, _ => none
  | M + 1, list, v, v_1, v_2 => impl_numbersDiffer_B2 N (impl_numbersDiffer_L2 N k1 k2 M) list v v_1 v_2 k1 k2

def impl_numbersDiffer_L2_x (e : Ex) : List Nat := (fun e => match e with
    | .normal => []
    | .exit id => match Nat.beq id 0 with | true => [] | false => []
    | .ret => [2]) e

def impl_numbersDiffer_dr4 : List DI := [⟨0, 0, [], [], 2⟩, ⟨1, 1, [], [], 2⟩, ⟨2, 3, [], [], 0⟩, ⟨3, 7, [], [], 2⟩, ⟨4, 15, [], [], 2⟩, ⟨5, 31, [18, 20, 21], [], 2⟩, ⟨6, 31, [17, 20, 21], [], 2⟩, ⟨7, 127, [20, 21], [], 2⟩, ⟨8, 31, [17, 18, 19], [], 2⟩, ⟨9, 287, [17, 18, 19], [], 2⟩, ⟨10, 1023, [], [], 1⟩, ⟨11, 2047, [], [], 2⟩, ⟨12, 4095, [], [], 2⟩]

def impl_numbersDiffer_C2 (N : Nat) : CC := ⟨Γ_impl_nodeValid, Λ0, (Δc 4 impl_numbersDiffer_dr4 Δ0), Μ0⟩

theorem impl_numbersDiffer_C2_Γ (N : Nat) : ∀ f s, (impl_numbersDiffer_C2 N).Γ f = some s → SmrOK Try.prog f s := Γ_impl_nodeValid_ok

theorem impl_numbersDiffer_C2_Λ (N : Nat) : ∀ b ∈ loopsIn (lpF Try.f118 0), ∀ s, (impl_numbersDiffer_C2 N).Λ (lid b) = some s → LOK Try.prog 26 0 b s :=
  LOKs_of (bs := []) (by kernel_rfl) LOKs_n

theorem impl_numbersDiffer_B2_eq {R : Type} (N : Nat) (rec : TL → List AB → Option R) (list : List (List PV)) (v : List (List PV)) (v_1 : Int) (v_2 : Int) (k : Ex → TL → List AB → Option R) :
    (crun tt (impl_numbersDiffer_C2 N) 26 (lpF Try.f118 0)) [(0, .d (.ls list)), (5, .d (.ls v)), (6, .d (.int .i64 v_1)), (7, .d (.int .i64 v_2))] [] (lnext 26 0 [] [0, 5, 6, 7] rec (lexit 26 0 impl_numbersDiffer_L2_x k)) =
    impl_numbersDiffer_B2 N (fun list v v_1 v_2 => rec [(0, .d (.ls list)), (5, .d (.ls v)), (6, .d (.int .i64 v_1)), (7, .d (.int .i64 v_2))] []) list v v_1 v_2 (fun v => k (.ret) [(2, .d (.bool v))] []) (k (.exit 0) [] []) := by kernel_rfl

theorem impl_numbersDiffer_L2_eq {R : Type} (N : Nat) (k : Ex → TL → List AB → Option R) : ∀ (M : Nat) (list : List (List PV)) (v : List (List PV)) (v_1 : Int) (v_2 : Int), loopG 26 0 [] (crun tt (impl_numbersDiffer_C2 N) 26 (lpF Try.f118 0)) [0, 5, 6, 7] (lexit 26 0 impl_numbersDiffer_L2_x k) M [(0, .d (.ls list)), (5, .d (.ls v)), (6, .d (.int .i64 v_1)), (7, .d (.int .i64 v_2))] [] =
    impl_numbersDiffer_L2 N (fun v => k (.ret) [(2, .d (.bool v))] []) (k (.exit 0) [] []) M list v v_1 v_2
  | 0, _, _, _, _ => rfl
  | M + 1, list, v, v_1, v_2 => (impl_numbersDiffer_B2_eq N (loopG 26 0 [] (crun tt (impl_numbersDiffer_C2 N) 26 (lpF Try.f118 0)) [0, 5, 6, 7] (lexit 26 0 impl_numbersDiffer_L2_x k) M) list v v_1 v_2 k).trans (congrArg (fun rec => impl_numbersDiffer_B2 N rec list v v_1 v_2 (fun v => k (.ret) [(2, .d (.bool v))] []) (k (.exit 0) [] [])) (funext fun list => (funext fun v => (funext fun v_1 => (funext fun v_2 => impl_numbersDiffer_L2_eq N k M list v v_1 v_2)))))

def impl_numbersDiffer_L2_s (N : Nat) : LSum := fun R l m k => gcf 26 0 [] [0, 5, 6, 7] l m fun l2 m2 => match l2, m2 with
  | [(z1, .d (.ls list)), (z2, .d (.ls v)), (z3, .d (.int .i64 v_1)), (z4, .d (.int .i64 v_2))], [] => chk (Nat.beq z1 0 && Nat.beq z2 5 && Nat.beq z3 6 && Nat.beq z4 7) (impl_numbersDiffer_L2 N (fun v => k (.ret) [(2, .d (.bool v))] []) (k (.exit 0) [] []) N list v v_1 v_2)
  | _, _ => none

theorem impl_numbersDiffer_L2_ok (N : Nat) : LOK Try.prog 26 0 (lpF Try.f118 0) (impl_numbersDiffer_L2_s N) := by
  refine (lsum_ok tt_ok mixed (impl_numbersDiffer_C2_Γ N) (impl_numbersDiffer_C2_Λ N) [] [0, 5, 6, 7] impl_numbersDiffer_L2_x N).of ?_
  intro R l m k r h
  unfold impl_numbersDiffer_L2_s at h
  refine gcf_mono ?_ h
  intro l2 m2 h
  split at h
  · obtain ⟨hc, h⟩ := chk_eq h
    simp only [Bool.and_eq_true, Nat.beq_eq_true_eq] at hc
    obtain ⟨⟨⟨rfl, rfl⟩, rfl⟩, rfl⟩ := hc
    rw [impl_numbersDiffer_L2_eq]
    exact h
  · cases h

def impl_numbersDiffer_c {R : Type} (N : Nat) (xs : List (List PV)) (k : AV → List AB → Option R) : Option R :=
  impl_numbersDiffer_L2 N (fun v =>
   k (.d (.bool v)) [])
  (k (.d (.bool true)) []) N xs xs (xs.length : Int) 0

def impl_numbersDiffer_C (N : Nat) : CC := ⟨Γ_impl_nodeValid, (Λc 2 (impl_numbersDiffer_L2_s N) Λ0), (Δc 4 impl_numbersDiffer_dr4 Δ0), Μ0⟩

theorem impl_numbersDiffer_C_Γ (N : Nat) : ∀ f s, (impl_numbersDiffer_C N).Γ f = some s → SmrOK Try.prog f s := Γ_impl_nodeValid_ok

theorem impl_numbersDiffer_C_Λ (N : Nat) : ∀ c, Try.f118.body = some c → ∀ b ∈ loopsIn c, ∀ s, (impl_numbersDiffer_C N).Λ (lid b) = some s → LOK Try.prog Try.f118.ntmps 0 b s :=
  LOKs_ofF (bs := [(lpF Try.f118 0)]) (by kernel_rfl) (LOKs_c (l := impl_numbersDiffer_L2_s N) (by kernel_rfl) (impl_numbersDiffer_L2_ok N) LOKs_n)

theorem impl_numbersDiffer_run {R : Type} (N : Nat) (xs : List (List PV)) (k : AV → List AB → Option R) :
    cfunN tt (impl_numbersDiffer_C N) Try.f118 0 [.d (.ls xs)] [] k = impl_numbersDiffer_c N xs k := by kernel_rfl

theorem numbersDiffer_loop {R : Type} (N : Nat) (rs : List Route) (hl : rs.length ≤ 1048576) (k1 : Bool → Option R) (k2 : Option R) : ∀ (M i : Nat), i ≤ rs.length → rs.length < i + M → (∀ j, j < i → numOk rs j = true) →
    impl_numbersDiffer_L2 N k1 k2 M (rs.map Route.pv) (rs.map Route.pv) rs.length (i : Int) = if numsOk rs then k2 else k1 false
  | 0, i, h1, h2, _ => by omega
  | M + 1, i, h1, h2, h3 => by
    simp only [impl_numbersDiffer_L2, impl_numbersDiffer_B2]
    by_cases h : i < rs.length
    · rw [lt_t h, br_t, getC_map h]
      have hm : ∀ (l : List Route), ((l.map Route.pv).drop 0).take ((i : Int).toNat - 0) = (l.take i).map Route.pv := fun l => by simp [List.map_take]
      simp only [Route.pv, Iv.pv, dInt_c, dStr_c, List.length_cons, List.length_nil, Nat.zero_add, Nat.reduceAdd, chk_beq, chk_t, br_t, br_f, bi_s, unRoutes_map, unIvs_map]
      have e0 : (rAt rs i).number = rs[i].number := by rw [rAt_get h]
      cases h5 : (decide (0 ≤ rs[i].number) && decide (rs[i].number < 8))
      · rw [Bool.not_false, br_t, numsOk_eq, all_r_f h (by unfold numOk; rw [e0, h5]; rfl)]; rfl
      · rw [Bool.not_true, br_f]
        have e1 : (List.map (fun (r : Route) => [PV.int .i64 r.number, PV.str r.low, PV.str r.high]) rs) = rs.map Route.pv := rfl
        rw [show (decide ((0 : Int) ≤ i) && decide ((i : Int) ≤ ((rs.map Route.pv).length : Int))) = true by simp; omega]
        rw [widthOk_map Route.pv_len, chk_t, chk_t, hm, unRoutes_map, bi_s, decide_eq_true (show (rs.take i).length ≤ 1048576 by simp; omega), chk_t, rIndex_take h]
        cases h6 : (List.range i).all fun j => !decide ((rAt rs j).number = (rAt rs i).number)
        · rw [Bool.not_false, br_t, numsOk_eq, all_r_f h (by unfold numOk; rw [h6, Bool.and_false])]; rfl
        · rw [Bool.not_true, br_f, wrap_s (by omega)]
          exact numbersDiffer_loop N rs hl k1 k2 M (i + 1) (by omega) (by omega) (upto_succ h3 (by unfold numOk; rw [h6, e0, h5]; rfl))
    · rw [lt_f h, br_f, numsOk_eq, all_r_t (fun j hj => h3 j (by omega))]; rfl
theorem impl_numbersDiffer_ceq {R : Type} (N : Nat) (rs : List Route) (k : AV → List AB → Option R) (hN : rs.length + 1 ≤ N) (hp1 : (decide (rs.length ≤ 1048576)) = true) :
    impl_numbersDiffer_c N (rs.map Route.pv) k = k (.d (.bool (numsOk rs))) [] := by
  simp only [decide_eq_true_eq] at hp1
  simp only [impl_numbersDiffer_c, List.length_map]
  refine (numbersDiffer_loop N rs hp1 _ _ N 0 (by omega) (by omega) (fun j hj => by omega)).trans ?_
  cases numsOk rs <;> rfl
def impl_numbersDiffer_sm : Smr := ⟨[false], fun R args mem k => match nilAVs args, mem with
  | [.d (.ls xs)], [] => bi (unRoutes xs) fun rs => chk (decide (rs.length ≤ 1048576)) (k (.d (.bool (numsOk rs))) [])
  | _, _ => none⟩

theorem impl_numbersDiffer_ok : SmrOK Try.prog 118 impl_numbersDiffer_sm := by
  intro R args mem k r h
  simp only [impl_numbersDiffer_sm] at h
  generalize hA : nilAVs args = args' at h
  split at h
  · rename_i xs
    obtain ⟨rs, hd0, h1⟩ := bi_eq h
    have hd0 := unRoutes_eq hd0
    subst hd0
    obtain ⟨hp1, h2⟩ := chk_eq h1
    replace h := h2
    refine ⟨_, _, Spec.nl hA (spec_of_run tt_ok mixed (impl_numbersDiffer_C_Γ (rs.length + 1)) Try.func118 (by kernel_rfl) (mem := []) (Nat.le_of_ble_eq_true (by kernel_rfl)) (impl_numbersDiffer_C_Λ (rs.length + 1)) ((impl_numbersDiffer_run (rs.length + 1) (rs.map Route.pv) _).trans ((impl_numbersDiffer_ceq (rs.length + 1) rs _ (Nat.le_refl _) hp1).trans ?_))), h⟩
    rfl
  · cases h

def Γ_impl_numbersDiffer : FuncId → Option Smr := Γc 118 impl_numbersDiffer_sm Γ_impl_nodeValid
theorem Γ_impl_numbersDiffer_ok : ∀ f s, Γ_impl_numbersDiffer f = some s → SmrOK Try.prog f s := Γc_ok impl_numbersDiffer_ok Γ_impl_nodeValid_ok


theorem joinOk_iv {v w : Iv} (h : joinOk v w = true) : ivOk v = true ∧ ivOk w = true := by
  simp only [joinOk, Bool.and_eq_true] at h; exact ⟨h.1.1.1, h.1.1.2⟩
def innerOk (l : List Iv) : Bool := ivOk (ivAt l 0) && (List.range (l.length - 1)).all fun i => joinOk (ivAt l i) (ivAt l (i + 1))

/- spec.PartitionValid -/

def spec_PartitionValid_B4 {R : Type} (N : Nat) (rec : List (List PV) → Int → Option R) (list : List (List PV)) (vk : Int) (k1 : Bool → Option R) (k2 : Option R) : Option R :=
  br (decide (vk < (list.length : Int)))
  (getC list (IntKind.i64.wrap (vk - 1)) fun x16 =>
   dStr x16 fun s18 r17 => dStr r17 fun s20 r19 =>
   chk (Nat.beq x16.length 2)
   (getC list vk fun x21 =>
    dStr x21 fun s23 r22 => dStr r22 fun s25 r24 =>
    chk (Nat.beq x21.length 2)
    (br (joinOk ⟨s18, s20⟩ ⟨s23, s25⟩)
     (rec list (IntKind.i64.wrap (vk + 1)))
     (k1 false))))
  (k2 )

def spec_PartitionValid_L4 {R : Type} (N : Nat) (k1 : Bool → Option R) (k2 : Option R) : Nat → List (List PV) → Int → Option R
  | 0, _, _ => none
  | M + 1, list, vk => spec_PartitionValid_B4 N (spec_PartitionValid_L4 N k1 k2 M) list vk k1 k2

def spec_PartitionValid_L4_x (e : Ex) : List Nat := (fun e => match e with
    | .normal => []
    | .exit id => match Nat.beq id 0 with | true => [] | false => []
    | .ret => [2]) e

def spec_PartitionValid_dr6 : List DI := [⟨0, 0, [4, 42, 43, 46, 47, 48, 49], [], 2⟩, ⟨1, 0, [4, 41, 46, 47, 48, 49], [], 2⟩, ⟨2, 2, [4, 41, 46, 47, 48, 49], [], 2⟩, ⟨3, 7, [4, 46, 47, 48, 49], [], 2⟩, ⟨4, 15, [4, 46, 47, 48, 49], [], 2⟩, ⟨5, 0, [4, 41, 42, 43, 44, 45, 47], [], 2⟩, ⟨6, 0, [4, 41, 42, 43, 44, 45, 46], [], 2⟩, ⟨7, 96, [4, 41, 42, 43, 44, 45], [], 2⟩, ⟨8, 224, [4, 41, 42, 43, 44, 45], [], 2⟩, ⟨9, 511, [4], [], 0⟩, ⟨10, 1023, [4], [], 2⟩, ⟨11, 2047, [4, 52], [], 2⟩, ⟨12, 2047, [4, 51], [], 2⟩, ⟨13, 0, [40, 41, 42, 43, 44, 45, 46, 47, 48, 49, 50, 51, 52], [], 1⟩, ⟨14, 12287, [52], [], 2⟩, ⟨15, 32767, [], [], 2⟩]

def spec_PartitionValid_C4 (N : Nat) : CC := ⟨Γ_impl_numbersDiffer, Λ0, (Δc 6 spec_PartitionValid_dr6 Δ0), Μ0⟩

theorem spec_PartitionValid_C4_Γ (N : Nat) : ∀ f s, (spec_PartitionValid_C4 N).Γ f = some s → SmrOK Try.prog f s := Γ_impl_numbersDiffer_ok

theorem spec_PartitionValid_C4_Λ (N : Nat) : ∀ b ∈ loopsIn (lpF Try.f114 0), ∀ s, (spec_PartitionValid_C4 N).Λ (lid b) = some s → LOK Try.prog 55 0 b s :=
  LOKs_of (bs := []) (by kernel_rfl) LOKs_n

theorem spec_PartitionValid_B4_eq {R : Type} (N : Nat) (rec : TL → List AB → Option R) (list : List (List PV)) (vk : Int) (k : Ex → TL → List AB → Option R) :
    (crun tt (spec_PartitionValid_C4 N) 55 (lpF Try.f114 0)) [(0, .d (.ls list)), (3, .d (.int .i64 vk))] [] (lnext 55 0 [] [0, 3] rec (lexit 55 0 spec_PartitionValid_L4_x k)) =
    spec_PartitionValid_B4 N (fun list vk => rec [(0, .d (.ls list)), (3, .d (.int .i64 vk))] []) list vk (fun v => k (.ret) [(2, .d (.bool v))] []) (k (.exit 0) [] []) := by kernel_rfl

theorem spec_PartitionValid_L4_eq {R : Type} (N : Nat) (k : Ex → TL → List AB → Option R) : ∀ (M : Nat) (list : List (List PV)) (vk : Int), loopG 55 0 [] (crun tt (spec_PartitionValid_C4 N) 55 (lpF Try.f114 0)) [0, 3] (lexit 55 0 spec_PartitionValid_L4_x k) M [(0, .d (.ls list)), (3, .d (.int .i64 vk))] [] =
    spec_PartitionValid_L4 N (fun v => k (.ret) [(2, .d (.bool v))] []) (k (.exit 0) [] []) M list vk
  | 0, _, _ => rfl
  | M + 1, list, vk => (spec_PartitionValid_B4_eq N (loopG 55 0 [] (crun tt (spec_PartitionValid_C4 N) 55 (lpF Try.f114 0)) [0, 3] (lexit 55 0 spec_PartitionValid_L4_x k) M) list vk k).trans (congrArg (fun rec => spec_PartitionValid_B4 N rec list vk (fun v => k (.ret) [(2, .d (.bool v))] []) (k (.exit 0) [] [])) (funext fun list => (funext fun vk => spec_PartitionValid_L4_eq N k M list vk)))

def spec_PartitionValid_L4_s (N : Nat) : LSum := fun R l m k => gcf 55 0 [] [0, 3] l m fun l2 m2 => match l2, m2 with
  | [(z1, .d (.ls list)), (z2, .d (.int .i64 vk))], [] => chk (Nat.beq z1 0 && Nat.beq z2 3) (spec_PartitionValid_L4 N (fun v => k (.ret) [(2, .d (.bool v))] []) (k (.exit 0) [] []) N list vk)
  | _, _ => none

theorem spec_PartitionValid_L4_ok (N : Nat) : LOK Try.prog 55 0 (lpF Try.f114 0) (spec_PartitionValid_L4_s N) := by
  refine (lsum_ok tt_ok mixed (spec_PartitionValid_C4_Γ N) (spec_PartitionValid_C4_Λ N) [] [0, 3] spec_PartitionValid_L4_x N).of ?_
  intro R l m k r h
  unfold spec_PartitionValid_L4_s at h
  refine gcf_mono ?_ h
  intro l2 m2 h
  split at h
  · obtain ⟨hc, h⟩ := chk_eq h
    simp only [Bool.and_eq_true, Nat.beq_eq_true_eq] at hc
    obtain ⟨rfl, rfl⟩ := hc
    rw [spec_PartitionValid_L4_eq]
    exact h
  · cases h

def spec_PartitionValid_c {R : Type} (N : Nat) (xs : List (List PV)) (k : AV → List AB → Option R) : Option R :=
  br (!(decide ((1 : Int) ≤ (xs.length : Int)) && decide ((xs.length : Int) ≤ (6 : Int))))
  (k (.d (.bool false)) [])
  (getC xs 0 fun x1 =>
   dStr x1 fun s3 r2 => dStr r2 fun s5 r4 =>
   chk (Nat.beq x1.length 2)
   (br (!(ivOk ⟨s3, s5⟩))
    (k (.d (.bool false)) [])
    (getC xs 0 fun x6 =>
     dStr x6 fun s8 r7 => dStr r7 fun s10 r9 =>
     chk (Nat.beq x6.length 2)
     (br (!(decide (s8 = (⟨#[]⟩ : ByteArray))))
      (k (.d (.bool false)) [])
      (getC xs (IntKind.i64.wrap ((xs.length : Int) - 1)) fun x11 =>
       dStr x11 fun s13 r12 => dStr r12 fun s15 r14 =>
       chk (Nat.beq x11.length 2)
       (br (!(decide (s15 = (⟨#[]⟩ : ByteArray))))
        (k (.d (.bool false)) [])
        (spec_PartitionValid_L4 N (fun v =>
          k (.d (.bool v)) [])
         (k (.d (.bool true)) []) N xs 1)))))))

def spec_PartitionValid_C (N : Nat) : CC := ⟨Γ_impl_numbersDiffer, (Λc 4 (spec_PartitionValid_L4_s N) Λ0), (Δc 6 spec_PartitionValid_dr6 Δ0), Μ0⟩

theorem spec_PartitionValid_C_Γ (N : Nat) : ∀ f s, (spec_PartitionValid_C N).Γ f = some s → SmrOK Try.prog f s := Γ_impl_numbersDiffer_ok

theorem spec_PartitionValid_C_Λ (N : Nat) : ∀ c, Try.f114.body = some c → ∀ b ∈ loopsIn c, ∀ s, (spec_PartitionValid_C N).Λ (lid b) = some s → LOK Try.prog Try.f114.ntmps 0 b s :=
  LOKs_ofF (bs := [(lpF Try.f114 0)]) (by kernel_rfl) (LOKs_c (l := spec_PartitionValid_L4_s N) (by kernel_rfl) (spec_PartitionValid_L4_ok N) LOKs_n)

theorem spec_PartitionValid_run {R : Type} (N : Nat) (xs : List (List PV)) (k : AV → List AB → Option R) :
    cfunN tt (spec_PartitionValid_C N) Try.f114 0 [.d (.ls xs)] [] k = spec_PartitionValid_c N xs k := by kernel_rfl

theorem sPart_loop {R : Type} (N : Nat) (l : List Iv) (hl : l.length ≤ 6) (k1 : Bool → Option R) (k2 : Option R) : ∀ (M i : Nat), 1 ≤ i → i ≤ l.length → l.length < i + M → (∀ j, j < i - 1 → joinOk (ivAt l j) (ivAt l (j + 1)) = true) →
    spec_PartitionValid_L4 N k1 k2 M (l.map Iv.pv) (i : Int) = if (List.range (l.length - 1)).all fun i => joinOk (ivAt l i) (ivAt l (i + 1)) then k2 else k1 false
  | 0, i, _, h1, h2, _ => by omega
  | M + 1, i, h0, h1, h2, h3 => by
    simp only [spec_PartitionValid_L4, spec_PartitionValid_B4, List.length_map]
    by_cases h : i < l.length
    · have e : IntKind.i64.wrap ((i : Int) - 1) = ((i - 1 : Nat) : Int) := by rw [wrap_id (by omega) (by omega)]; omega
      rw [lt_t h, br_t, e, getC_map (by omega)]
      simp only [Route.pv, Iv.pv, dInt_c, dStr_c, List.length_cons, List.length_nil, Nat.zero_add, Nat.reduceAdd, chk_beq, chk_t, br_t, br_f, bi_s, unRoutes_map, unIvs_map]
      rw [getC_map h]
      simp only [Route.pv, Iv.pv, dInt_c, dStr_c, List.length_cons, List.length_nil, Nat.zero_add, Nat.reduceAdd, chk_beq, chk_t, br_t, br_f, bi_s, unRoutes_map, unIvs_map]
      have e1 : joinOk ⟨(l[i - 1]).low, (l[i - 1]).high⟩ ⟨l[i].low, l[i].high⟩ = joinOk (ivAt l (i - 1)) (ivAt l (i - 1 + 1)) := by
        rw [ivAt_get (by omega), ivAt_get (by omega)]; congr 1; simp only [show i - 1 + 1 = i by omega]
      rw [e1]
      cases h5 : joinOk (ivAt l (i - 1)) (ivAt l (i - 1 + 1))
      · rw [br_f, all_r_f (show i - 1 < l.length - 1 by omega) h5]; rfl
      · rw [br_t, wrap_s (by omega)]
        refine sPart_loop N l hl k1 k2 M (i + 1) (by omega) (by omega) (by omega) ?_
        have := upto_succ h3 h5
        rw [show i - 1 + 1 = i + 1 - 1 by omega] at this
        exact this
    · rw [lt_f h, br_f, all_r_t (fun j hj => h3 j (by omega))]; rfl
theorem spec_PartitionValid_ceq {R : Type} (N : Nat) (vs : List Iv) (k : AV → List AB → Option R) (hN : 8 ≤ N) :
    spec_PartitionValid_c N (vs.map Iv.pv) k = k (.d (.bool (partOk vs))) [] := by
  simp only [spec_PartitionValid_c, List.length_map]
  have hw : (decide ((1 : Int) ≤ vs.length) && decide ((vs.length : Int) ≤ 6)) = (decide (1 ≤ vs.length) && decide (vs.length ≤ 6)) := by
    congr 1
    · exact decide_eq_decide.2 (by omega)
    · exact decide_eq_decide.2 (by omega)
  rw [hw]
  cases h : (decide (1 ≤ vs.length) && decide (vs.length ≤ 6))
  · have : partOk vs = false := by unfold partOk; rw [h]; rfl
    rw [Bool.not_false, br_t, this]
  · rw [Bool.not_true, br_f]
    have h' := h
    simp only [Bool.and_eq_true, decide_eq_true_eq] at h'
    have g0 : ∀ (k : List PV → Option R), getC (vs.map Iv.pv) 0 k = k vs[0].pv := getC_map (i := 0) (by omega)
    have e : IntKind.i64.wrap ((vs.length : Int) - 1) = ((vs.length - 1 : Nat) : Int) := by rw [wrap_id (by omega) (by omega)]; omega
    rw [g0]
    simp only [Route.pv, Iv.pv, dInt_c, dStr_c, List.length_cons, List.length_nil, Nat.zero_add, Nat.reduceAdd, chk_beq, chk_t, br_t, br_f, bi_s, unRoutes_map, unIvs_map]
    rw [g0]
    simp only [Route.pv, Iv.pv, dInt_c, dStr_c, List.length_cons, List.length_nil, Nat.zero_add, Nat.reduceAdd, chk_beq, chk_t, br_t, br_f, bi_s, unRoutes_map, unIvs_map]
    rw [e, getC_map (by omega)]
    simp only [Route.pv, Iv.pv, dInt_c, dStr_c, List.length_cons, List.length_nil, Nat.zero_add, Nat.reduceAdd, chk_beq, chk_t, br_t, br_f, bi_s, unRoutes_map, unIvs_map]
    have := sPart_loop N vs h'.2 (fun v => k (.d (.bool v)) []) (k (.d (.bool true)) []) N 1 (by omega) (by omega) (by omega) (fun j hj => by omega)
    rw [show ((1 : Nat) : Int) = 1 from rfl] at this
    rw [this]
    unfold partOk
    rw [h, ivAt_get (show 0 < vs.length by omega), ivAt_get (show vs.length - 1 < vs.length by omega)]
    rw [show (⟨vs[0].low, vs[0].high⟩ : Iv) = vs[0] from rfl]
    cases ivOk vs[0] <;> cases decide (vs[0].low = ⟨#[]⟩) <;> cases decide ((vs[vs.length - 1]).high = ⟨#[]⟩) <;> cases ((List.range (vs.length - 1)).all fun i => joinOk (ivAt vs i) (ivAt vs (i + 1))) <;> rfl
def spec_PartitionValid_sm : Smr := ⟨[false], fun R args mem k => match nilAVs args, mem with
  | [.d (.ls xs)], [] => bi (unIvs xs) fun vs => k (.d (.bool (partOk vs))) []
  | _, _ => none⟩

theorem spec_PartitionValid_ok : SmrOK Try.prog 114 spec_PartitionValid_sm := by
  intro R args mem k r h
  simp only [spec_PartitionValid_sm] at h
  generalize hA : nilAVs args = args' at h
  split at h
  · rename_i xs
    obtain ⟨vs, hd0, h1⟩ := bi_eq h
    have hd0 := unIvs_eq hd0
    subst hd0
    replace h := h1
    refine ⟨_, _, Spec.nl hA (spec_of_run tt_ok mixed (spec_PartitionValid_C_Γ (8)) Try.func114 (by kernel_rfl) (mem := []) (Nat.le_of_ble_eq_true (by kernel_rfl)) (spec_PartitionValid_C_Λ (8)) ((spec_PartitionValid_run (8) (vs.map Iv.pv) _).trans ((spec_PartitionValid_ceq (8) vs _ (Nat.le_refl _)).trans ?_))), h⟩
    rfl
  · cases h

def Γ_spec_PartitionValid : FuncId → Option Smr := Γc 114 spec_PartitionValid_sm Γ_impl_numbersDiffer
theorem Γ_spec_PartitionValid_ok : ∀ f s, Γ_spec_PartitionValid f = some s → SmrOK Try.prog f s := Γc_ok spec_PartitionValid_ok Γ_impl_numbersDiffer_ok


/- impl.PartitionValid -/

def impl_PartitionValid_B5 {R : Type} (N : Nat) (rec : List (List PV) → List (List PV) → Int → Int → Option R) (list : List (List PV)) (v : List (List PV)) (v_1 : Int) (v_2 : Int) (k1 : Bool → Option R) (k2 : Option R) : Option R :=
  br (decide (v_2 < v_1))
  (getC v v_2 fun x11 =>
   dStr x11 fun s13 r12 => dStr r12 fun s15 r14 =>
   chk (Nat.beq x11.length 2)
   (br (!(ivOk ⟨s13, s15⟩))
    (k1 false)
    (br (decide (v_2 > 0))
     (getC list (IntKind.i64.wrap (v_2 - 1)) fun x16 =>
      dStr x16 fun s18 r17 => dStr r17 fun s20 r19 =>
      chk (Nat.beq x16.length 2)
      (br (joinOk ⟨s18, s20⟩ ⟨s13, s15⟩)
       (rec list v v_1 (IntKind.i64.wrap (v_2 + 1)))
       (k1 false)))
     (rec list v v_1 (IntKind.i64.wrap (v_2 + 1))))))
  (k2 )

def impl_PartitionValid_L5 {R : Type} (N : Nat) (k1 : Bool → Option R) (k2 : Option R) : Nat → List (List PV) → List (List PV) → Int → Int → Option R
  | 0, _, _, _, _ => none
  | M + 1, list, v, v_1, v_2 => impl_PartitionValid_B5 N (impl_PartitionValid_L5 N k1 k2 M) list v v_1 v_2 k1 k2

def impl_PartitionValid_L5_x (e : Ex) : List Nat := (fun e => match e with
    | .normal => []
    | .exit id => match Nat.beq id 0 with | true => [] | false => []
    | .ret => [2]) e

def impl_PartitionValid_dr10 : List DI := [⟨0, 0, [6, 46, 47, 50], [], 2⟩, ⟨1, 0, [6, 45, 50], [], 2⟩, ⟨2, 2, [6, 45, 50], [], 2⟩, ⟨3, 7, [6, 50], [], 2⟩, ⟨4, 15, [6, 50], [], 2⟩, ⟨5, 0, [6, 45, 46, 47, 48, 49], [], 2⟩, ⟨6, 63, [6], [], 0⟩, ⟨7, 127, [6], [], 2⟩, ⟨8, 255, [6, 53], [], 2⟩, ⟨9, 255, [6, 52], [], 2⟩, ⟨10, 0, [44, 45, 46, 47, 48, 49, 50, 51, 52, 53], [], 1⟩, ⟨11, 1535, [53], [], 2⟩, ⟨12, 4095, [], [], 2⟩]

def impl_PartitionValid_C5 (N : Nat) : CC := ⟨Γ_spec_PartitionValid, Λ0, (Δc 10 impl_PartitionValid_dr10 Δ0), Μ0⟩

theorem impl_PartitionValid_C5_Γ (N : Nat) : ∀ f s, (impl_PartitionValid_C5 N).Γ f = some s → SmrOK Try.prog f s := Γ_spec_PartitionValid_ok

theorem impl_PartitionValid_C5_Λ (N : Nat) : ∀ b ∈ loopsIn (lpF Try.f116 0), ∀ s, (impl_PartitionValid_C5 N).Λ (lid b) = some s → LOK Try.prog 57 0 b s :=
  LOKs_of (bs := []) (by kernel_rfl) LOKs_n

theorem impl_PartitionValid_B5_eq {R : Type} (N : Nat) (rec : TL → List AB → Option R) (list : List (List PV)) (v : List (List PV)) (v_1 : Int) (v_2 : Int) (k : Ex → TL → List AB → Option R) :
    (crun tt (impl_PartitionValid_C5 N) 57 (lpF Try.f116 0)) [(0, .d (.ls list)), (32, .d (.ls v)), (33, .d (.int .i64 v_1)), (34, .d (.int .i64 v_2))] [] (lnext 57 0 [] [0, 32, 33, 34] rec (lexit 57 0 impl_PartitionValid_L5_x k)) =
    impl_PartitionValid_B5 N (fun list v v_1 v_2 => rec [(0, .d (.ls list)), (32, .d (.ls v)), (33, .d (.int .i64 v_1)), (34, .d (.int .i64 v_2))] []) list v v_1 v_2 (fun v => k (.ret) [(2, .d (.bool v))] []) (k (.exit 0) [] []) := by kernel_rfl

theorem impl_PartitionValid_L5_eq {R : Type} (N : Nat) (k : Ex → TL → List AB → Option R) : ∀ (M : Nat) (list : List (List PV)) (v : List (List PV)) (v_1 : Int) (v_2 : Int), loopG 57 0 [] (crun tt (impl_PartitionValid_C5 N) 57 (lpF Try.f116 0)) [0, 32, 33, 34] (lexit 57 0 impl_PartitionValid_L5_x k) M [(0, .d (.ls list)), (32, .d (.ls v)), (33, .d (.int .i64 v_1)), (34, .d (.int .i64 v_2))] [] =
    impl_PartitionValid_L5 N (fun v => k (.ret) [(2, .d (.bool v))] []) (k (.exit 0) [] []) M list v v_1 v_2
  | 0, _, _, _, _ => rfl
  | M + 1, list, v, v_1, v_2 => (impl_PartitionValid_B5_eq N (loopG 57 0 [] (crun tt (impl_PartitionValid_C5 N) 57 (lpF Try.f116 0)) [0, 32, 33, 34] (lexit 57 0 impl_PartitionValid_L5_x k) M) list v v_1 v_2 k).trans (congrArg (fun rec => impl_PartitionValid_B5 N rec list v v_1 v_2 (fun v => k (.ret) [(2, .d (.bool v))] []) (k (.exit 0) [] [])) (funext fun list => (funext fun v => (funext fun v_1 => (funext fun v_2 => impl_PartitionValid_L5_eq N k M list v v_1 v_2)))))

def impl_PartitionValid_L5_s (N : Nat) : LSum := fun R l m k => gcf 57 0 [] [0, 32, 33, 34] l m fun l2 m2 => match l2, m2 with
  | [(z1, .d (.ls list)), (z2, .d (.ls v)), (z3, .d (.int .i64 v_1)), (z4, .d (.int .i64 v_2))], [] => chk (Nat.beq z1 0 && Nat.beq z2 32 && Nat.beq z3 33 && Nat.beq z4 34) (impl_PartitionValid_L5 N (fun v => k (.ret) [(2, .d (.bool v))] []) (k (.exit 0) [] []) N list v v_1 v_2)
  | _, _ => none

theorem impl_PartitionValid_L5_ok (N : Nat) : LOK Try.prog 57 0 (lpF Try.f116 0) (impl_PartitionValid_L5_s N) := by
  refine (lsum_ok tt_ok mixed (impl_PartitionValid_C5_Γ N) (impl_PartitionValid_C5_Λ N) [] [0, 32, 33, 34] impl_PartitionValid_L5_x N).of ?_
  intro R l m k r h
  unfold impl_PartitionValid_L5_s at h
  refine gcf_mono ?_ h
  intro l2 m2 h
  split at h
  · obtain ⟨hc, h⟩ := chk_eq h
    simp only [Bool.and_eq_true, Nat.beq_eq_true_eq] at hc
    obtain ⟨⟨⟨rfl, rfl⟩, rfl⟩, rfl⟩ := hc
    rw [impl_PartitionValid_L5_eq]
    exact h
  · cases h

def impl_PartitionValid_c {R : Type} (N : Nat) (xs : List (List PV)) (k : AV → List AB → Option R) : Option R :=
  br (decide ((xs.length : Int) < 1))
  (k (.d (.bool false)) [])
  (br (decide ((xs.length : Int) > 6))
   (k (.d (.bool false)) [])
   (getC xs 0 fun x1 =>
    dStr x1 fun s3 r2 => dStr r2 fun s5 r4 =>
    chk (Nat.beq x1.length 2)
    (br (!(decide (s3 = (⟨#[]⟩ : ByteArray))))
     (k (.d (.bool false)) [])
     (getC xs (IntKind.i64.wrap ((xs.length : Int) - 1)) fun x6 =>
      dStr x6 fun s8 r7 => dStr r7 fun s10 r9 =>
      chk (Nat.beq x6.length 2)
      (br (!(decide (s10 = (⟨#[]⟩ : ByteArray))))
       (k (.d (.bool false)) [])
       (impl_PartitionValid_L5 N (fun v =>
         k (.d (.bool v)) [])
        (k (.d (.bool true)) []) N xs xs (xs.length : Int) 0))))))

def impl_PartitionValid_C (N : Nat) : CC := ⟨Γ_spec_PartitionValid, (Λc 5 (impl_PartitionValid_L5_s N) Λ0), (Δc 10 impl_PartitionValid_dr10 Δ0), Μ0⟩

theorem impl_PartitionValid_C_Γ (N : Nat) : ∀ f s, (impl_PartitionValid_C N).Γ f = some s → SmrOK Try.prog f s := Γ_spec_PartitionValid_ok

theorem impl_PartitionValid_C_Λ (N : Nat) : ∀ c, Try.f116.body = some c → ∀ b ∈ loopsIn c, ∀ s, (impl_PartitionValid_C N).Λ (lid b) = some s → LOK Try.prog Try.f116.ntmps 0 b s :=
  LOKs_ofF (bs := [(lpF Try.f116 0)]) (by kernel_rfl) (LOKs_c (l := impl_PartitionValid_L5_s N) (by kernel_rfl) (impl_PartitionValid_L5_ok N) LOKs_n)

theorem impl_PartitionValid_run {R : Type} (N : Nat) (xs : List (List PV)) (k : AV → List AB → Option R) :
    cfunN tt (impl_PartitionValid_C N) Try.f116 0 [.d (.ls xs)] [] k = impl_PartitionValid_c N xs k := by kernel_rfl

theorem iPart_loop {R : Type} (N : Nat) (l : List Iv) (hl : l.length ≤ 6) (h0 : 1 ≤ l.length) (k1 : Bool → Option R) (k2 : Option R) : ∀ (M i : Nat), i ≤ l.length → l.length < i + M → (∀ j, j < i - 1 → joinOk (ivAt l j) (ivAt l (j + 1)) = true) → (0 < i → ivOk (ivAt l 0) = true) →
    impl_PartitionValid_L5 N k1 k2 M (l.map Iv.pv) (l.map Iv.pv) l.length (i : Int) = if innerOk l then k2 else k1 false
  | 0, i, h1, h2, _, _ => by omega
  | M + 1, i, h1, h2, h3, h4 => by
    simp only [impl_PartitionValid_L5, impl_PartitionValid_B5]
    by_cases h : i < l.length
    · rw [lt_t h, br_t, getC_map h]
      simp only [Route.pv, Iv.pv, dInt_c, dStr_c, List.length_cons, List.length_nil, Nat.zero_add, Nat.reduceAdd, chk_beq, chk_t, br_t, br_f, bi_s, unRoutes_map, unIvs_map]
      rw [show ivOk ⟨l[i].low, l[i].high⟩ = ivOk (ivAt l i) by rw [ivAt_get h]]
      by_cases hi : i = 0
      · subst hi
        rw [decide_eq_false (by omega), br_f]
        cases h5 : ivOk (ivAt l 0)
        · rw [Bool.not_false, br_t]; unfold innerOk; rw [h5]; rfl
        · rw [Bool.not_true, br_f, wrap_s (by omega)]
          exact iPart_loop N l hl h0 k1 k2 M (0 + 1) (by omega) (by omega) (fun j hj => by omega) (fun _ => h5)
      · rw [decide_eq_true (by omega), br_t]
        have e : IntKind.i64.wrap ((i : Int) - 1) = ((i - 1 : Nat) : Int) := by rw [wrap_id (by omega) (by omega)]; omega
        rw [e, getC_map (by omega)]
        simp only [Route.pv, Iv.pv, dInt_c, dStr_c, List.length_cons, List.length_nil, Nat.zero_add, Nat.reduceAdd, chk_beq, chk_t, br_t, br_f, bi_s, unRoutes_map, unIvs_map]
        have e1 : joinOk ⟨(l[i - 1]).low, (l[i - 1]).high⟩ ⟨l[i].low, l[i].high⟩ = joinOk (ivAt l (i - 1)) (ivAt l (i - 1 + 1)) := by
          rw [ivAt_get (by omega), ivAt_get (by omega)]; congr 1; simp only [show i - 1 + 1 = i by omega]
        rw [e1]
        cases h6 : joinOk (ivAt l (i - 1)) (ivAt l (i - 1 + 1))
        · have hf : innerOk l = false := by unfold innerOk; rw [all_r_f (show i - 1 < l.length - 1 by omega) h6, Bool.and_false]
          rw [br_f, hf, br_same]; rfl
        · have h7 := (joinOk_iv h6).2
          rw [show i - 1 + 1 = i by omega] at h7
          rw [h7, Bool.not_true, br_f, br_t, wrap_s (by omega)]
          refine iPart_loop N l hl h0 k1 k2 M (i + 1) (by omega) (by omega) ?_ (fun _ => h4 (by omega))
          have := upto_succ h3 h6
          rw [show i - 1 + 1 = i + 1 - 1 by omega] at this
          exact this
    · rw [lt_f h, br_f]
      unfold innerOk
      rw [h4 (by omega), all_r_t (fun j hj => h3 j (by omega))]; rfl
theorem impl_PartitionValid_ceq {R : Type} (N : Nat) (vs : List Iv) (k : AV → List AB → Option R) (hN : 8 ≤ N) :
    impl_PartitionValid_c N (vs.map Iv.pv) k = k (.d (.bool (partOk vs))) [] := by
  simp only [impl_PartitionValid_c, List.length_map]
  by_cases ha : vs.length < 1
  · have : partOk vs = false := by unfold partOk; rw [decide_eq_false (show ¬ 1 ≤ vs.length by omega)]; rfl
    rw [decide_eq_true (by omega), br_t, this]
  rw [decide_eq_false (by omega), br_f]
  by_cases hb : vs.length > 6
  · have : partOk vs = false := by unfold partOk; rw [decide_eq_false (show ¬ vs.length ≤ 6 by omega)]; simp
    rw [decide_eq_true (by omega), br_t, this]
  rw [decide_eq_false (by omega), br_f]
  have g0 : ∀ (k : List PV → Option R), getC (vs.map Iv.pv) 0 k = k vs[0].pv := getC_map (i := 0) (by omega)
  have e : IntKind.i64.wrap ((vs.length : Int) - 1) = ((vs.length - 1 : Nat) : Int) := by rw [wrap_id (by omega) (by omega)]; omega
  rw [g0]
  simp only [Route.pv, Iv.pv, dInt_c, dStr_c, List.length_cons, List.length_nil, Nat.zero_add, Nat.reduceAdd, chk_beq, chk_t, br_t, br_f, bi_s, unRoutes_map, unIvs_map]
  rw [e, getC_map (by omega)]
  simp only [Route.pv, Iv.pv, dInt_c, dStr_c, List.length_cons, List.length_nil, Nat.zero_add, Nat.reduceAdd, chk_beq, chk_t, br_t, br_f, bi_s, unRoutes_map, unIvs_map]
  have := iPart_loop N vs (by omega) (by omega) (fun v => k (.d (.bool v)) []) (k (.d (.bool true)) []) N 0 (by omega) (by omega) (fun j hj => by omega) (fun h => by omega)
  rw [show ((0 : Nat) : Int) = 0 from rfl] at this
  rw [this]
  unfold partOk innerOk
  rw [decide_eq_true (show 1 ≤ vs.length by omega), decide_eq_true (show vs.length ≤ 6 by omega), ivAt_get (show 0 < vs.length by omega), ivAt_get (show vs.length - 1 < vs.length by omega)]
  cases ivOk vs[0] <;> cases decide (vs[0].low = ⟨#[]⟩) <;> cases decide ((vs[vs.length - 1]).high = ⟨#[]⟩) <;> cases ((List.range (vs.length - 1)).all fun i => joinOk (ivAt vs i) (ivAt vs (i + 1))) <;> rfl
def impl_PartitionValid_sm : Smr := ⟨[false], fun R args mem k => match nilAVs args, mem with
  | [.d (.ls xs)], [] => bi (unIvs xs) fun vs => k (.d (.bool (partOk vs))) []
  | _, _ => none⟩

theorem impl_PartitionValid_ok : SmrOK Try.prog 116 impl_PartitionValid_sm := by
  intro R args mem k r h
  simp only [impl_PartitionValid_sm] at h
  generalize hA : nilAVs args = args' at h
  split at h
  · rename_i xs
    obtain ⟨vs, hd0, h1⟩ := bi_eq h
    have hd0 := unIvs_eq hd0
    subst hd0
    replace h := h1
    refine ⟨_, _, Spec.nl hA (spec_of_run tt_ok mixed (impl_PartitionValid_C_Γ (8)) Try.func116 (by kernel_rfl) (mem := []) (Nat.le_of_ble_eq_true (by kernel_rfl)) (impl_PartitionValid_C_Λ (8)) ((impl_PartitionValid_run (8) (vs.map Iv.pv) _).trans ((impl_PartitionValid_ceq (8) vs _ (Nat.le_refl _)).trans ?_))), h⟩
    rfl
  · cases h

def Γ_impl_PartitionValid : FuncId → Option Smr := Γc 116 impl_PartitionValid_sm Γ_spec_PartitionValid
theorem Γ_impl_PartitionValid_ok : ∀ f s, Γ_impl_PartitionValid f = some s → SmrOK Try.prog f s := Γc_ok impl_PartitionValid_ok Γ_spec_PartitionValid_ok


/- impl.RoutesValid -/

def impl_RoutesValid_c {R : Type} (N : Nat) (xs : List (List PV)) (k : AV → List AB → Option R) : Option R :=
  br (decide ((xs.length : Int) ≤ 6))
  (bi (unRoutes xs) fun rs1 =>
   chk (decide (rs1.length ≤ 1048576))
   (bi (unIvs ((rs1.map Route.iv).map Iv.pv)) fun vs2 =>
    br (partOk vs2)
    (bi (unRoutes xs) fun rs3 =>
     chk (decide (rs3.length ≤ 1048576))
     (k (.d (.bool (numsOk rs3))) []))
    (k (.d (.bool false)) [])))
  (k (.d (.bool false)) [])

def impl_RoutesValid_C (N : Nat) : CC := ⟨Γ_impl_PartitionValid, Λ0, Δ0, Μ0⟩

theorem impl_RoutesValid_C_Γ (N : Nat) : ∀ f s, (impl_RoutesValid_C N).Γ f = some s → SmrOK Try.prog f s := Γ_impl_PartitionValid_ok

theorem impl_RoutesValid_C_Λ (N : Nat) : ∀ c, Try.f82.body = some c → ∀ b ∈ loopsIn c, ∀ s, (impl_RoutesValid_C N).Λ (lid b) = some s → LOK Try.prog Try.f82.ntmps 0 b s :=
  LOKs_ofF (bs := []) (by kernel_rfl) LOKs_n

theorem impl_RoutesValid_run {R : Type} (N : Nat) (xs : List (List PV)) (k : AV → List AB → Option R) :
    cfunN tt (impl_RoutesValid_C N) Try.f82 0 [.d (.ls xs)] [] k = impl_RoutesValid_c N xs k := by kernel_rfl

theorem impl_RoutesValid_ceq {R : Type} (N : Nat) (rs : List Route) (k : AV → List AB → Option R) (hp1 : (decide (rs.length ≤ 1048576)) = true) :
    impl_RoutesValid_c N (rs.map Route.pv) k = k (.d (.bool (routesOk rs))) [] := by
  simp only [impl_RoutesValid_c, Route.pv, Iv.pv, dInt_c, dStr_c, List.length_cons, List.length_nil, Nat.zero_add, Nat.reduceAdd, chk_beq, chk_t, br_t, br_f, bi_s, unRoutes_map, unIvs_map, List.length_map, hp1]
  by_cases h : rs.length ≤ 6
  · rw [decide_eq_true (by omega), br_t, br_kb]; congr 3; unfold routesOk; cases partOk (rs.map Route.iv) <;> rfl
  · have : routesOk rs = false := by unfold routesOk partOk; rw [List.length_map, decide_eq_false h]; simp
    rw [decide_eq_false (by omega), br_f, this]
def impl_RoutesValid_sm : Smr := ⟨[false], fun R args mem k => match nilAVs args, mem with
  | [.d (.ls xs)], [] => bi (unRoutes xs) fun rs => chk (decide (rs.length ≤ 1048576)) (k (.d (.bool (routesOk rs))) [])
  | _, _ => none⟩

theorem impl_RoutesValid_ok : SmrOK Try.prog 82 impl_RoutesValid_sm := by
  intro R args mem k r h
  simp only [impl_RoutesValid_sm] at h
  generalize hA : nilAVs args = args' at h
  split at h
  · rename_i xs
    obtain ⟨rs, hd0, h1⟩ := bi_eq h
    have hd0 := unRoutes_eq hd0
    subst hd0
    obtain ⟨hp1, h2⟩ := chk_eq h1
    replace h := h2
    refine ⟨_, _, Spec.nl hA (spec_of_run tt_ok mixed (impl_RoutesValid_C_Γ 0) Try.func82 (by kernel_rfl) (mem := []) (Nat.le_of_ble_eq_true (by kernel_rfl)) (impl_RoutesValid_C_Λ 0) ((impl_RoutesValid_run 0 (rs.map Route.pv) _).trans ((impl_RoutesValid_ceq 0 rs _ hp1).trans ?_))), h⟩
    rfl
  · cases h

def Γ_impl_RoutesValid : FuncId → Option Smr := Γc 82 impl_RoutesValid_sm Γ_impl_PartitionValid
theorem Γ_impl_RoutesValid_ok : ∀ f s, Γ_impl_RoutesValid f = some s → SmrOK Try.prog f s := Γc_ok impl_RoutesValid_ok Γ_impl_PartitionValid_ok


/- spec.RoutesValid -/

def spec_RoutesValid_B8 {R : Type} (N : Nat) (rec : List (List PV) → Int → Int → List (List PV) → Option R) (list : List (List PV)) (vk : Int) (j : Int) (c0 : List (List PV)) (k1 : Bool → Option R) (k2 : List (List PV) → Int → List (List PV) → Option R) : Option R :=
  br (decide (j < vk))
  (getC list j fun x8 =>
   dInt .i64 x8 fun n10 r9 => dStr r9 fun s12 r11 => dStr r11 fun s14 r13 =>
   chk (Nat.beq x8.length 3)
   (getC list vk fun x15 =>
    dInt .i64 x15 fun n17 r16 => dStr r16 fun s19 r18 => dStr r18 fun s21 r20 =>
    chk (Nat.beq x15.length 3)
    (br (n10 == n17)
     (k1 false)
     (rec list vk (IntKind.i64.wrap (j + 1)) c0))))
  (k2 list vk c0)

def spec_RoutesValid_L8 {R : Type} (N : Nat) (k1 : Bool → Option R) (k2 : List (List PV) → Int → List (List PV) → Option R) : Nat → List (List PV) → Int → Int → List (List PV) → Option R
  | 0, _, _, _, _ => none
  | M + 1, list, vk, j, c0 => spec_RoutesValid_B8 N (spec_RoutesValid_L8 N k1 k2 M) list vk j c0 k1 k2

def spec_RoutesValid_L8_x (e : Ex) : List Nat := (fun e => match e with
    | .normal => []
    | .exit id => match Nat.beq id 2 with | true => [0, 3, 4] | false => []
    | .ret => [2]) e

def spec_RoutesValid_dr10 : List DI := [⟨0, 0, [30, 34, 35, 36, 37, 38], [], 0⟩, ⟨1, 0, [29, 34, 35, 36, 37, 38], [], 0⟩, ⟨2, 3, [34, 35, 36, 37, 38], [], 0⟩, ⟨3, 7, [34, 35, 36, 37, 38], [], 0⟩, ⟨4, 15, [34, 35, 36, 37, 38], [], 0⟩, ⟨5, 0, [29, 30, 31, 32, 33, 35], [], 0⟩, ⟨6, 0, [29, 30, 31, 32, 33, 34], [], 0⟩, ⟨7, 96, [29, 30, 31, 32, 33], [], 0⟩, ⟨8, 224, [29, 30, 31, 32, 33], [], 0⟩, ⟨9, 480, [29, 30, 31, 32, 33], [], 0⟩, ⟨10, 1023, [], [], 0⟩]

def spec_RoutesValid_C8 (N : Nat) : CC := ⟨Γ_impl_RoutesValid, Λ0, (Δc 10 spec_RoutesValid_dr10 Δ0), Μ0⟩

theorem spec_RoutesValid_C8_Γ (N : Nat) : ∀ f s, (spec_RoutesValid_C8 N).Γ f = some s → SmrOK Try.prog f s := Γ_impl_RoutesValid_ok

theorem spec_RoutesValid_C8_Λ (N : Nat) : ∀ b ∈ loopsIn (lpC (lpF Try.f76 0) 0), ∀ s, (spec_RoutesValid_C8 N).Λ (lid b) = some s → LOK Try.prog 50 0 b s :=
  LOKs_of (bs := []) (by kernel_rfl) LOKs_n

theorem spec_RoutesValid_B8_eq {R : Type} (N : Nat) (rec : TL → List AB → Option R) (list : List (List PV)) (vk : Int) (j : Int) (c0 : List (List PV)) (k : Ex → TL → List AB → Option R) :
    (crun tt (spec_RoutesValid_C8 N) 50 (lpC (lpF Try.f76 0) 0)) [(0, .d (.ls list)), (3, .sl 0), (4, .d (.int .i64 vk)), (5, .d (.int .i64 j))] [.ar 2 0 c0] (lnext 50 0 [] [0, 3, 4, 5] rec (lexit 50 0 spec_RoutesValid_L8_x k)) =
    spec_RoutesValid_B8 N (fun list vk j c0 => rec [(0, .d (.ls list)), (3, .sl 0), (4, .d (.int .i64 vk)), (5, .d (.int .i64 j))] [.ar 2 0 c0]) list vk j c0 (fun v => k (.ret) [(2, .d (.bool v))] []) (fun list vk c0 => k (.exit 2) [(0, .d (.ls list)), (3, .sl 0), (4, .d (.int .i64 vk))] [.ar 2 0 c0]) := by kernel_rfl

theorem spec_RoutesValid_L8_eq {R : Type} (N : Nat) (k : Ex → TL → List AB → Option R) : ∀ (M : Nat) (list : List (List PV)) (vk : Int) (j : Int) (c0 : List (List PV)), loopG 50 0 [] (crun tt (spec_RoutesValid_C8 N) 50 (lpC (lpF Try.f76 0) 0)) [0, 3, 4, 5] (lexit 50 0 spec_RoutesValid_L8_x k) M [(0, .d (.ls list)), (3, .sl 0), (4, .d (.int .i64 vk)), (5, .d (.int .i64 j))] [.ar 2 0 c0] =
    spec_RoutesValid_L8 N (fun v => k (.ret) [(2, .d (.bool v))] []) (fun list vk c0 => k (.exit 2) [(0, .d (.ls list)), (3, .sl 0), (4, .d (.int .i64 vk))] [.ar 2 0 c0]) M list vk j c0
  | 0, _, _, _, _ => rfl
  | M + 1, list, vk, j, c0 => (spec_RoutesValid_B8_eq N (loopG 50 0 [] (crun tt (spec_RoutesValid_C8 N) 50 (lpC (lpF Try.f76 0) 0)) [0, 3, 4, 5] (lexit 50 0 spec_RoutesValid_L8_x k) M) list vk j c0 k).trans (congrArg (fun rec => spec_RoutesValid_B8 N rec list vk j c0 (fun v => k (.ret) [(2, .d (.bool v))] []) (fun list vk c0 => k (.exit 2) [(0, .d (.ls list)), (3, .sl 0), (4, .d (.int .i64 vk))] [.ar 2 0 c0])) (funext fun list => (funext fun vk => (funext fun j => (funext fun c0 => spec_RoutesValid_L8_eq N k M list vk j c0)))))

def spec_RoutesValid_L8_s (N : Nat) : LSum := fun R l m k => gcf 50 0 [] [0, 3, 4, 5] l m fun l2 m2 => match l2, m2 with
  | [(z1, .d (.ls list)), (z2, .sl z3), (z4, .d (.int .i64 vk)), (z5, .d (.int .i64 j))], [.ar z6 z7 c0] => chk (Nat.beq z1 0 && Nat.beq z2 3 && Nat.beq z3 0 && Nat.beq z4 4 && Nat.beq z5 5 && Nat.beq z6 2 && Nat.beq z7 0) (spec_RoutesValid_L8 N (fun v => k (.ret) [(2, .d (.bool v))] []) (fun list vk c0 => k (.exit 2) [(0, .d (.ls list)), (3, .sl 0), (4, .d (.int .i64 vk))] [.ar 2 0 c0]) N list vk j c0)
  | _, _ => none

theorem spec_RoutesValid_L8_ok (N : Nat) : LOK Try.prog 50 0 (lpC (lpF Try.f76 0) 0) (spec_RoutesValid_L8_s N) := by
  refine (lsum_ok tt_ok mixed (spec_RoutesValid_C8_Γ N) (spec_RoutesValid_C8_Λ N) [] [0, 3, 4, 5] spec_RoutesValid_L8_x N).of ?_
  intro R l m k r h
  unfold spec_RoutesValid_L8_s at h
  refine gcf_mono ?_ h
  intro l2 m2 h
  split at h
  · obtain ⟨hc, h⟩ := chk_eq h
    simp only [Bool.and_eq_true, Nat.beq_eq_true_eq] at hc
    obtain ⟨⟨⟨⟨⟨⟨rfl, rfl⟩, rfl⟩, rfl⟩, rfl⟩, rfl⟩, rfl⟩ := hc
    rw [spec_RoutesValid_L8_eq]
    exact h
  · cases h

def spec_RoutesValid_B3 {R : Type} (N : Nat) (rec : List (List PV) → Int → List (List PV) → Option R) (list : List (List PV)) (vk : Int) (c0 : List (List PV)) (k1 : Bool → Option R) (k2 : List (List PV) → Option R) : Option R :=
  br (decide (vk < (list.length : Int)))
  (br (decide (vk ≥ 6))
   (k1 false)
   (getC list vk fun x1 =>
    dInt .i64 x1 fun n3 r2 => dStr r2 fun s5 r4 => dStr r4 fun s7 r6 =>
    chk (Nat.beq x1.length 3)
    (br (!(decide ((0 : Int) ≤ n3) && decide (n3 ≤ (7 : Int))))
     (k1 false)
     (spec_RoutesValid_L8 N (fun v =>
       k1 v)
      (fun list vk c0 =>
       getC list vk fun x22 =>
       dInt .i64 x22 fun n24 r23 => dStr r23 fun s26 r25 => dStr r25 fun s28 r27 =>
       chk (Nat.beq x22.length 3)
       (chk (clim (c0.length + 1) 32)
        (rec list (IntKind.i64.wrap (vk + 1)) (c0 ++ ([[.str s26, .str s28]] : List (List PV)))))) N list vk 0 c0))))
  (k2 c0)

def spec_RoutesValid_L3 {R : Type} (N : Nat) (k1 : Bool → Option R) (k2 : List (List PV) → Option R) : Nat → List (List PV) → Int → List (List PV) → Option R
  | 0, _, _, _ => none
  | M + 1, list, vk, c0 => spec_RoutesValid_B3 N (spec_RoutesValid_L3 N k1 k2 M) list vk c0 k1 k2

def spec_RoutesValid_L3_x (e : Ex) : List Nat := (fun e => match e with
    | .normal => []
    | .exit id => match Nat.beq id 0 with | true => [3] | false => []
    | .ret => [2]) e

def spec_RoutesValid_C3 (N : Nat) : CC := ⟨Γ_impl_RoutesValid, (Λc 8 (spec_RoutesValid_L8_s N) Λ0), (Δc 10 spec_RoutesValid_dr10 Δ0), Μ0⟩

theorem spec_RoutesValid_C3_Γ (N : Nat) : ∀ f s, (spec_RoutesValid_C3 N).Γ f = some s → SmrOK Try.prog f s := Γ_impl_RoutesValid_ok

theorem spec_RoutesValid_C3_Λ (N : Nat) : ∀ b ∈ loopsIn (lpF Try.f76 0), ∀ s, (spec_RoutesValid_C3 N).Λ (lid b) = some s → LOK Try.prog 50 0 b s :=
  LOKs_of (bs := [(lpC (lpF Try.f76 0) 0)]) (by kernel_rfl) (LOKs_c (l := spec_RoutesValid_L8_s N) (by kernel_rfl) (spec_RoutesValid_L8_ok N) LOKs_n)

theorem spec_RoutesValid_B3_eq {R : Type} (N : Nat) (rec : TL → List AB → Option R) (list : List (List PV)) (vk : Int) (c0 : List (List PV)) (k : Ex → TL → List AB → Option R) :
    (crun tt (spec_RoutesValid_C3 N) 50 (lpF Try.f76 0)) [(0, .d (.ls list)), (3, .sl 0), (4, .d (.int .i64 vk))] [.ar 2 0 c0] (lnext 50 0 [] [0, 3, 4] rec (lexit 50 0 spec_RoutesValid_L3_x k)) =
    spec_RoutesValid_B3 N (fun list vk c0 => rec [(0, .d (.ls list)), (3, .sl 0), (4, .d (.int .i64 vk))] [.ar 2 0 c0]) list vk c0 (fun v => k (.ret) [(2, .d (.bool v))] []) (fun c0 => k (.exit 0) [(3, .sl 0)] [.ar 2 0 c0]) := by kernel_rfl

theorem spec_RoutesValid_L3_eq {R : Type} (N : Nat) (k : Ex → TL → List AB → Option R) : ∀ (M : Nat) (list : List (List PV)) (vk : Int) (c0 : List (List PV)), loopG 50 0 [] (crun tt (spec_RoutesValid_C3 N) 50 (lpF Try.f76 0)) [0, 3, 4] (lexit 50 0 spec_RoutesValid_L3_x k) M [(0, .d (.ls list)), (3, .sl 0), (4, .d (.int .i64 vk))] [.ar 2 0 c0] =
    spec_RoutesValid_L3 N (fun v => k (.ret) [(2, .d (.bool v))] []) (fun c0 => k (.exit 0) [(3, .sl 0)] [.ar 2 0 c0]) M list vk c0
  | 0, _, _, _ => rfl
  | M + 1, list, vk, c0 => (spec_RoutesValid_B3_eq N (loopG 50 0 [] (crun tt (spec_RoutesValid_C3 N) 50 (lpF Try.f76 0)) [0, 3, 4] (lexit 50 0 spec_RoutesValid_L3_x k) M) list vk c0 k).trans (congrArg (fun rec => spec_RoutesValid_B3 N rec list vk c0 (fun v => k (.ret) [(2, .d (.bool v))] []) (fun c0 => k (.exit 0) [(3, .sl 0)] [.ar 2 0 c0])) (funext fun list => (funext fun vk => (funext fun c0 => spec_RoutesValid_L3_eq N k M list vk c0))))

def spec_RoutesValid_L3_s (N : Nat) : LSum := fun R l m k => gcf 50 0 [] [0, 3, 4] l m fun l2 m2 => match l2, m2 with
  | [(z1, .d (.ls list)), (z2, .sl z3), (z4, .d (.int .i64 vk))], [.ar z5 z6 c0] => chk (Nat.beq z1 0 && Nat.beq z2 3 && Nat.beq z3 0 && Nat.beq z4 4 && Nat.beq z5 2 && Nat.beq z6 0) (spec_RoutesValid_L3 N (fun v => k (.ret) [(2, .d (.bool v))] []) (fun c0 => k (.exit 0) [(3, .sl 0)] [.ar 2 0 c0]) N list vk c0)
  | _, _ => none

theorem spec_RoutesValid_L3_ok (N : Nat) : LOK Try.prog 50 0 (lpF Try.f76 0) (spec_RoutesValid_L3_s N) := by
  refine (lsum_ok tt_ok mixed (spec_RoutesValid_C3_Γ N) (spec_RoutesValid_C3_Λ N) [] [0, 3, 4] spec_RoutesValid_L3_x N).of ?_
  intro R l m k r h
  unfold spec_RoutesValid_L3_s at h
  refine gcf_mono ?_ h
  intro l2 m2 h
  split at h
  · obtain ⟨hc, h⟩ := chk_eq h
    simp only [Bool.and_eq_true, Nat.beq_eq_true_eq] at hc
    obtain ⟨⟨⟨⟨⟨rfl, rfl⟩, rfl⟩, rfl⟩, rfl⟩, rfl⟩ := hc
    rw [spec_RoutesValid_L3_eq]
    exact h
  · cases h

def spec_RoutesValid_c {R : Type} (N : Nat) (xs : List (List PV)) (k : AV → List AB → Option R) : Option R :=
  spec_RoutesValid_L3 N (fun v =>
   k (.d (.bool v)) [])
  (fun c0 =>
   bi (unIvs c0) fun vs29 =>
   k (.d (.bool (partOk vs29))) []) N xs 0 ([] : List (List PV))

def spec_RoutesValid_C (N : Nat) : CC := ⟨Γ_impl_RoutesValid, (Λc 3 (spec_RoutesValid_L3_s N) Λ0), (Δc 10 spec_RoutesValid_dr10 Δ0), Μ0⟩

theorem spec_RoutesValid_C_Γ (N : Nat) : ∀ f s, (spec_RoutesValid_C N).Γ f = some s → SmrOK Try.prog f s := Γ_impl_RoutesValid_ok

theorem spec_RoutesValid_C_Λ (N : Nat) : ∀ c, Try.f76.body = some c → ∀ b ∈ loopsIn c, ∀ s, (spec_RoutesValid_C N).Λ (lid b) = some s → LOK Try.prog Try.f76.ntmps 0 b s :=
  LOKs_ofF (bs := [(lpF Try.f76 0)]) (by kernel_rfl) (LOKs_c (l := spec_RoutesValid_L3_s N) (by kernel_rfl) (spec_RoutesValid_L3_ok N) LOKs_n)

theorem spec_RoutesValid_run {R : Type} (N : Nat) (xs : List (List PV)) (k : AV → List AB → Option R) :
    cfunN tt (spec_RoutesValid_C N) Try.f76 0 [.d (.ls xs)] [] k = spec_RoutesValid_c N xs k := by kernel_rfl

theorem sRoutes_in {R : Type} (N : Nat) (rs : List Route) (i : Nat) (h : i < rs.length) (hi : i < 6) (c0 : List (List PV)) (k1 : Bool → Option R) (k2 : List (List PV) → Int → List (List PV) → Option R) : ∀ (M j : Nat), j ≤ i → i < j + M → (∀ q, q < j → ¬ (rAt rs q).number = (rAt rs i).number) →
    spec_RoutesValid_L8 N k1 k2 M (rs.map Route.pv) (i : Int) (j : Int) c0 = if (List.range i).all fun j => !decide ((rAt rs j).number = (rAt rs i).number) then k2 (rs.map Route.pv) i c0 else k1 false
  | 0, j, h1, h2, _ => by omega
  | M + 1, j, h1, h2, h3 => by
    simp only [spec_RoutesValid_L8, spec_RoutesValid_B8]
    by_cases hj : j < i
    · rw [lt_t hj, br_t, getC_map (by omega)]
      simp only [Route.pv, Iv.pv, dInt_c, dStr_c, List.length_cons, List.length_nil, Nat.zero_add, Nat.reduceAdd, chk_beq, chk_t, br_t, br_f, bi_s, unRoutes_map, unIvs_map]
      rw [getC_map h]
      simp only [Route.pv, Iv.pv, dInt_c, dStr_c, List.length_cons, List.length_nil, Nat.zero_add, Nat.reduceAdd, chk_beq, chk_t, br_t, br_f, bi_s, unRoutes_map, unIvs_map]
      by_cases h5 : (rAt rs j).number = (rAt rs i).number
      · rw [all_r_f hj (by simp [h5])]
        rw [rAt_get (by omega), rAt_get h] at h5
        rw [h5, beq_self_eq_true, br_t]; rfl
      · have h6 := h5
        rw [rAt_get (by omega), rAt_get h] at h6
        rw [show (rs[j].number == rs[i].number) = false by simpa using h6, br_f, wrap_s (by omega)]
        exact sRoutes_in N rs i h hi c0 k1 k2 M (j + 1) (by omega) (by omega) (upto_succ h3 h5)
    · rw [lt_f hj, br_f, all_r_t (fun q hq => by simpa using h3 q (by omega))]; rfl
theorem sRoutes_loop {R : Type} (N : Nat) (rs : List Route) (hN : 8 ≤ N) (k1 : Bool → Option R) (k2 : List (List PV) → Option R) : ∀ (M i : Nat), i ≤ rs.length → i ≤ 6 → 6 < i + M → (∀ j, j < i → numOk rs j = true) →
    spec_RoutesValid_L3 N k1 k2 M (rs.map Route.pv) (i : Int) (((rs.take i).map Route.iv).map Iv.pv) = if numsOk rs && decide (rs.length ≤ 6) then k2 ((rs.map Route.iv).map Iv.pv) else k1 false
  | 0, i, h1, h2, h3, _ => by omega
  | M + 1, i, h1, h2, h3, h4 => by
    simp only [spec_RoutesValid_L3, spec_RoutesValid_B3, List.length_map]
    by_cases h : i < rs.length
    · rw [lt_t h, br_t]
      by_cases h6 : i ≥ 6
      · rw [decide_eq_true (show (i : Int) ≥ 6 by omega), br_t, decide_eq_false (show ¬ rs.length ≤ 6 by omega), Bool.and_false]; rfl
      · rw [decide_eq_false (show ¬ (i : Int) ≥ 6 by omega), br_f, getC_map h]
        simp only [Route.pv, Iv.pv, dInt_c, dStr_c, List.length_cons, List.length_nil, Nat.zero_add, Nat.reduceAdd, chk_beq, chk_t, br_t, br_f, bi_s, unRoutes_map, unIvs_map]
        have e0 : (rAt rs i).number = rs[i].number := by rw [rAt_get h]
        have e1 : (decide ((0 : Int) ≤ rs[i].number) && decide (rs[i].number ≤ (7 : Int))) = (decide (0 ≤ (rAt rs i).number) && decide ((rAt rs i).number < 8)) := by
          rw [e0]; congr 1; exact decide_eq_decide.2 (by omega)
        rw [e1]
        cases h5 : (decide (0 ≤ (rAt rs i).number) && decide ((rAt rs i).number < 8))
        · rw [Bool.not_false, br_t, numsOk_eq, all_r_f h (by unfold numOk; rw [h5]; rfl)]; rfl
        · rw [Bool.not_true, br_f]
          have := sRoutes_in N rs i h (by omega) (((rs.take i).map Route.iv).map Iv.pv) (fun v => k1 v) (fun list vk c0 => getC list vk fun x => dInt .i64 x fun n r => dStr r fun s r2 => dStr r2 fun t r3 => chk (Nat.beq x.length 3) (chk (clim (c0.length + 1) 32) (spec_RoutesValid_L3 N k1 k2 M list (IntKind.i64.wrap (vk + 1)) (c0 ++ [[.str s, .str t]])))) N 0 (by omega) (by omega) (fun q hq => by omega)
          rw [show ((0 : Nat) : Int) = 0 from rfl] at this
          rw [this]
          cases h7 : (List.range i).all fun j => !decide ((rAt rs j).number = (rAt rs i).number)
          · rw [numsOk_eq, all_r_f h (by unfold numOk; rw [h7, Bool.and_false])]; rfl
          · rw [if_pos rfl, getC_map h]
            simp only [Route.pv, Iv.pv, dInt_c, dStr_c, List.length_cons, List.length_nil, Nat.zero_add, Nat.reduceAdd, chk_beq, chk_t, br_t, br_f, bi_s, unRoutes_map, unIvs_map]
            rw [clim_t (by simp only [List.length_map, List.length_take]; omega), chk_t, wrap_s (by omega)]
            rw [← sRoutes_loop N rs hN k1 k2 M (i + 1) (by omega) (by omega) (by omega) (upto_succ h4 (by unfold numOk; rw [h7, h5]; rfl)), List.take_succ_eq_append_getElem h]
            simp only [List.map_append, List.map_cons, List.map_nil]
            rfl
    · rw [lt_f h, br_f, List.take_of_length_le (by omega), numsOk_eq, all_r_t (fun j hj => h4 j (by omega)), decide_eq_true (show rs.length ≤ 6 by omega)]; rfl
theorem spec_RoutesValid_ceq {R : Type} (N : Nat) (rs : List Route) (k : AV → List AB → Option R) (hN : 8 ≤ N) :
    spec_RoutesValid_c N (rs.map Route.pv) k = k (.d (.bool (routesOk rs))) [] := by
  simp only [spec_RoutesValid_c]
  refine (sRoutes_loop N rs hN _ _ N 0 (by omega) (by omega) (by omega) (fun j hj => by omega)).trans ?_
  simp only [Route.pv, Iv.pv, dInt_c, dStr_c, List.length_cons, List.length_nil, Nat.zero_add, Nat.reduceAdd, chk_beq, chk_t, br_t, br_f, bi_s, unRoutes_map, unIvs_map]
  unfold routesOk
  by_cases h : rs.length ≤ 6
  · rw [decide_eq_true h, Bool.and_true]
    cases numsOk rs <;> simp
  · have : partOk (rs.map Route.iv) = false := by unfold partOk; rw [List.length_map, decide_eq_false h]; simp
    rw [decide_eq_false h, Bool.and_false, this]; rfl
def spec_RoutesValid_sm : Smr := ⟨[false], fun R args mem k => match nilAVs args, mem with
  | [.d (.ls xs)], [] => bi (unRoutes xs) fun rs => k (.d (.bool (routesOk rs))) []
  | _, _ => none⟩

theorem spec_RoutesValid_ok : SmrOK Try.prog 76 spec_RoutesValid_sm := by
  intro R args mem k r h
  simp only [spec_RoutesValid_sm] at h
  generalize hA : nilAVs args = args' at h
  split at h
  · rename_i xs
    obtain ⟨rs, hd0, h1⟩ := bi_eq h
    have hd0 := unRoutes_eq hd0
    subst hd0
    replace h := h1
    refine ⟨_, _, Spec.nl hA (spec_of_run tt_ok mixed (spec_RoutesValid_C_Γ (8)) Try.func76 (by kernel_rfl) (mem := []) (Nat.le_of_ble_eq_true (by kernel_rfl)) (spec_RoutesValid_C_Λ (8)) ((spec_RoutesValid_run (8) (rs.map Route.pv) _).trans ((spec_RoutesValid_ceq (8) rs _ (Nat.le_refl _)).trans ?_))), h⟩
    rfl
  · cases h

def Γ_spec_RoutesValid : FuncId → Option Smr := Γc 76 spec_RoutesValid_sm Γ_impl_RoutesValid
theorem Γ_spec_RoutesValid_ok : ∀ f s, Γ_spec_RoutesValid f = some s → SmrOK Try.prog f s := Γc_ok spec_RoutesValid_ok Γ_impl_RoutesValid_ok


/- spec.PlanValid -/

def spec_PlanValid_c {R : Type} (N : Nat) (pk : Int) (pf : Int) (ps : Int) (pb : ByteArray) (pr : Int) (pt : Int) (pe : Int) (k : AV → List AB → Option R) : Option R :=
  br (!(decide ((0 : Int) ≤ pf) && decide (pf ≤ (7 : Int))))
  (k (.d (.bool false)) [])
  (br (pk == 1)
   (br (keyOk pb)
    (br (ps == 0)
     (br (pr == 0)
      (br (pt == 0)
       (k (.d (.bool (pe == 0))) [])
       (k (.d (.bool false)) []))
      (k (.d (.bool false)) []))
     (k (.d (.bool false)) []))
    (k (.d (.bool false)) []))
   (br (pk == 2)
    (br (decide ((0 : Int) ≤ ps) && decide (ps ≤ (7 : Int)))
     (br (ps != pf)
      (br (decide (pb = (⟨#[]⟩ : ByteArray)))
       (br (pr == 0)
        (br (pt == 0)
         (k (.d (.bool (pe == 0))) [])
         (k (.d (.bool false)) []))
        (k (.d (.bool false)) []))
       (k (.d (.bool false)) []))
      (k (.d (.bool false)) []))
     (k (.d (.bool false)) []))
    (br (pk == 3)
     (br (decide ((0 : Int) ≤ pr) && decide (pr ≤ (4 : Int)))
      (br (decide ((0 : Int) ≤ pt) && decide (pt ≤ (4 : Int)))
       (br (pr != pt)
        (br (decide ((0 : Int) ≤ pe) && decide (pe ≤ (1 : Int)))
         (br (ps == 0)
          (k (.d (.bool (decide (pb = (⟨#[]⟩ : ByteArray))))) [])
          (k (.d (.bool false)) []))
         (k (.d (.bool false)) []))
        (k (.d (.bool false)) []))
       (k (.d (.bool false)) []))
      (k (.d (.bool false)) []))
     (k (.d (.bool false)) []))))

def spec_PlanValid_C (N : Nat) : CC := ⟨Γ_spec_RoutesValid, Λ0, Δ0, Μ0⟩

theorem spec_PlanValid_C_Γ (N : Nat) : ∀ f s, (spec_PlanValid_C N).Γ f = some s → SmrOK Try.prog f s := Γ_spec_RoutesValid_ok

theorem spec_PlanValid_C_Λ (N : Nat) : ∀ c, Try.f34.body = some c → ∀ b ∈ loopsIn c, ∀ s, (spec_PlanValid_C N).Λ (lid b) = some s → LOK Try.prog Try.f34.ntmps 0 b s :=
  LOKs_ofF (bs := []) (by kernel_rfl) LOKs_n

theorem spec_PlanValid_run {R : Type} (N : Nat) (pk : Int) (pf : Int) (ps : Int) (pb : ByteArray) (pr : Int) (pt : Int) (pe : Int) (k : AV → List AB → Option R) :
    cfunN tt (spec_PlanValid_C N) Try.f34 0 [.agg [.d (.int .i64 pk), .d (.int .i64 pf), .d (.int .i64 ps), .d (.str pb), .d (.int .i64 pr), .d (.int .i64 pt), .d (.int .i64 pe)]] [] k = spec_PlanValid_c N pk pf ps pb pr pt pe k := by kernel_rfl

theorem spec_PlanValid_ceq {R : Type} (N : Nat) (pk : Int) (pf : Int) (ps : Int) (pb : ByteArray) (pr : Int) (pt : Int) (pe : Int) (k : AV → List AB → Option R) :
    spec_PlanValid_c N pk pf ps pb pr pt pe k = k (.d (.bool (planOk ⟨pk, pf, ps, pb, pr, pt, pe⟩))) [] := by
  simp only [spec_PlanValid_c, br_kb, br_not]
  congr 3
  simp only [planOk]
  grind
def spec_PlanValid_sm : Smr := ⟨[false], fun R args mem k => match nilAVs args, mem with
  | [.agg [.d (.int .i64 pk), .d (.int .i64 pf), .d (.int .i64 ps), .d (.str pb), .d (.int .i64 pr), .d (.int .i64 pt), .d (.int .i64 pe)]], [] => k (.d (.bool (planOk ⟨pk, pf, ps, pb, pr, pt, pe⟩))) []
  | _, _ => none⟩

theorem spec_PlanValid_ok : SmrOK Try.prog 34 spec_PlanValid_sm := by
  intro R args mem k r h
  simp only [spec_PlanValid_sm] at h
  generalize hA : nilAVs args = args' at h
  split at h
  · rename_i pk pf ps pb pr pt pe
    refine ⟨_, _, Spec.nl hA (spec_of_run tt_ok mixed (spec_PlanValid_C_Γ 0) Try.func34 (by kernel_rfl) (mem := []) (Nat.le_of_ble_eq_true (by kernel_rfl)) (spec_PlanValid_C_Λ 0) ((spec_PlanValid_run 0 pk pf ps pb pr pt pe _).trans ((spec_PlanValid_ceq 0 pk pf ps pb pr pt pe _).trans ?_))), h⟩
    rfl
  · cases h

def Γ_spec_PlanValid : FuncId → Option Smr := Γc 34 spec_PlanValid_sm Γ_spec_RoutesValid
theorem Γ_spec_PlanValid_ok : ∀ f s, Γ_spec_PlanValid f = some s → SmrOK Try.prog f s := Γc_ok spec_PlanValid_ok Γ_spec_RoutesValid_ok

/- impl.PlanValid -/

def impl_PlanValid_c {R : Type} (N : Nat) (pk : Int) (pf : Int) (ps : Int) (pb : ByteArray) (pr : Int) (pt : Int) (pe : Int) (k : AV → List AB → Option R) : Option R :=
  br (!(decide (0 ≤ pf) && decide (pf < 8)))
  (k (.d (.bool false)) [])
  (br (pk == 1)
   (br (keyOk pb)
    (k (.d (.bool ((pk == 1) && ((pf == pf) && ((ps == 0) && (decide (pb = pb) && ((pr == 0) && ((pt == 0) && ((pe == 0) && true))))))))) [])
    (k (.d (.bool false)) []))
   (br (pk == 2)
    (br (decide (0 ≤ ps) && decide (ps < 8))
     (br (ps != pf)
      (k (.d (.bool ((pk == 2) && ((pf == pf) && ((ps == ps) && (decide (pb = ⟨#[]⟩) && ((pr == 0) && ((pt == 0) && ((pe == 0) && true))))))))) [])
      (k (.d (.bool false)) []))
     (k (.d (.bool false)) []))
    (br (pk == 3)
     (br (decide (0 ≤ pr) && decide (pr < 5))
      (br (decide (0 ≤ pt) && decide (pt < 5))
       (br (pr != pt)
        (br (pe == 0)
         (br (ps == 0)
          (k (.d (.bool (decide (pb = (⟨#[]⟩ : ByteArray))))) [])
          (k (.d (.bool false)) []))
         (br (pe == 1)
          (br (ps == 0)
           (k (.d (.bool (decide (pb = (⟨#[]⟩ : ByteArray))))) [])
           (k (.d (.bool false)) []))
          (k (.d (.bool false)) [])))
        (k (.d (.bool false)) []))
       (k (.d (.bool false)) []))
      (k (.d (.bool false)) []))
     (k (.d (.bool false)) []))))

def impl_PlanValid_C (N : Nat) : CC := ⟨Γ_spec_PlanValid, Λ0, Δ0, Μ0⟩

theorem impl_PlanValid_C_Γ (N : Nat) : ∀ f s, (impl_PlanValid_C N).Γ f = some s → SmrOK Try.prog f s := Γ_spec_PlanValid_ok

theorem impl_PlanValid_C_Λ (N : Nat) : ∀ c, Try.f83.body = some c → ∀ b ∈ loopsIn c, ∀ s, (impl_PlanValid_C N).Λ (lid b) = some s → LOK Try.prog Try.f83.ntmps 0 b s :=
  LOKs_ofF (bs := []) (by kernel_rfl) LOKs_n

theorem impl_PlanValid_run {R : Type} (N : Nat) (pk : Int) (pf : Int) (ps : Int) (pb : ByteArray) (pr : Int) (pt : Int) (pe : Int) (k : AV → List AB → Option R) :
    cfunN tt (impl_PlanValid_C N) Try.f83 0 [.agg [.d (.int .i64 pk), .d (.int .i64 pf), .d (.int .i64 ps), .d (.str pb), .d (.int .i64 pr), .d (.int .i64 pt), .d (.int .i64 pe)]] [] k = impl_PlanValid_c N pk pf ps pb pr pt pe k := by kernel_rfl

theorem impl_PlanValid_ceq {R : Type} (N : Nat) (pk : Int) (pf : Int) (ps : Int) (pb : ByteArray) (pr : Int) (pt : Int) (pe : Int) (k : AV → List AB → Option R) :
    impl_PlanValid_c N pk pf ps pb pr pt pe k = k (.d (.bool (planOk ⟨pk, pf, ps, pb, pr, pt, pe⟩))) [] := by
  simp only [impl_PlanValid_c, br_kb, br_not]
  congr 3
  simp only [planOk]
  grind
def impl_PlanValid_sm : Smr := ⟨[false], fun R args mem k => match nilAVs args, mem with
  | [.agg [.d (.int .i64 pk), .d (.int .i64 pf), .d (.int .i64 ps), .d (.str pb), .d (.int .i64 pr), .d (.int .i64 pt), .d (.int .i64 pe)]], [] => k (.d (.bool (planOk ⟨pk, pf, ps, pb, pr, pt, pe⟩))) []
  | _, _ => none⟩

theorem impl_PlanValid_ok : SmrOK Try.prog 83 impl_PlanValid_sm := by
  intro R args mem k r h
  simp only [impl_PlanValid_sm] at h
  generalize hA : nilAVs args = args' at h
  split at h
  · rename_i pk pf ps pb pr pt pe
    refine ⟨_, _, Spec.nl hA (spec_of_run tt_ok mixed (impl_PlanValid_C_Γ 0) Try.func83 (by kernel_rfl) (mem := []) (Nat.le_of_ble_eq_true (by kernel_rfl)) (impl_PlanValid_C_Λ 0) ((impl_PlanValid_run 0 pk pf ps pb pr pt pe _).trans ((impl_PlanValid_ceq 0 pk pf ps pb pr pt pe _).trans ?_))), h⟩
    rfl
  · cases h

def Γ_impl_PlanValid : FuncId → Option Smr := Γc 83 impl_PlanValid_sm Γ_spec_PlanValid
theorem Γ_impl_PlanValid_ok : ∀ f s, Γ_impl_PlanValid f = some s → SmrOK Try.prog f s := Γc_ok impl_PlanValid_ok Γ_spec_PlanValid_ok


theorem noPlan_eq (pk pf ps pr pt pe : Int) (pb : ByteArray) : ((pk == 0) && ((pf == 0) && ((ps == 0) && (decide (pb = ⟨#[]⟩) && ((pr == 0) && ((pt == 0) && ((pe == 0) && true))))))) = decide (Plan.mk pk pf ps pb pr pt pe = noPlan) := by
  rw [Bool.eq_iff_iff]; simp [noPlan]
/- spec.l27Work -/

def spec_l27Work_c {R : Type} (N : Nat) (pk : Int) (pf : Int) (ps : Int) (pb : ByteArray) (pr : Int) (pt : Int) (pe : Int) (sh : Int) (k : AV → List AB → Option R) : Option R :=
  br ((pk == 0) && ((pf == 0) && ((ps == 0) && (decide (pb = ⟨#[]⟩) && ((pr == 0) && ((pt == 0) && ((pe == 0) && true)))))))
  (k (.d (.bool true)) [])
  (br (planOk ⟨pk, pf, ps, pb, pr, pt, pe⟩)
   (br (decide (pf < sh))
    (k (.d (.bool (decide (ps < sh)))) [])
    (k (.d (.bool false)) []))
   (k (.d (.bool false)) []))

def spec_l27Work_C (N : Nat) : CC := ⟨Γ_impl_PlanValid, Λ0, Δ0, Μ0⟩

theorem spec_l27Work_C_Γ (N : Nat) : ∀ f s, (spec_l27Work_C N).Γ f = some s → SmrOK Try.prog f s := Γ_impl_PlanValid_ok

theorem spec_l27Work_C_Λ (N : Nat) : ∀ c, Try.f35.body = some c → ∀ b ∈ loopsIn c, ∀ s, (spec_l27Work_C N).Λ (lid b) = some s → LOK Try.prog Try.f35.ntmps 0 b s :=
  LOKs_ofF (bs := []) (by kernel_rfl) LOKs_n

theorem spec_l27Work_run {R : Type} (N : Nat) (pk : Int) (pf : Int) (ps : Int) (pb : ByteArray) (pr : Int) (pt : Int) (pe : Int) (sh : Int) (k : AV → List AB → Option R) :
    cfunN tt (spec_l27Work_C N) Try.f35 0 [.agg [.d (.int .i64 pk), .d (.int .i64 pf), .d (.int .i64 ps), .d (.str pb), .d (.int .i64 pr), .d (.int .i64 pt), .d (.int .i64 pe)], .d (.int .i64 sh)] [] k = spec_l27Work_c N pk pf ps pb pr pt pe sh k := by kernel_rfl

theorem spec_l27Work_ceq {R : Type} (N : Nat) (pk : Int) (pf : Int) (ps : Int) (pb : ByteArray) (pr : Int) (pt : Int) (pe : Int) (sh : Int) (k : AV → List AB → Option R) :
    spec_l27Work_c N pk pf ps pb pr pt pe sh k = k (.d (.bool (workOk ⟨pk, pf, ps, pb, pr, pt, pe⟩ sh))) [] := by
  simp only [spec_l27Work_c, noPlan_eq, br_kb]
  congr 3
  unfold workOk
  cases decide (Plan.mk pk pf ps pb pr pt pe = noPlan) <;> cases planOk ⟨pk, pf, ps, pb, pr, pt, pe⟩ <;> cases decide (pf < sh) <;> rfl
def spec_l27Work_sm : Smr := ⟨[false, false], fun R args mem k => match nilAVs args, mem with
  | [.agg [.d (.int .i64 pk), .d (.int .i64 pf), .d (.int .i64 ps), .d (.str pb), .d (.int .i64 pr), .d (.int .i64 pt), .d (.int .i64 pe)], .d (.int .i64 sh)], [] => k (.d (.bool (workOk ⟨pk, pf, ps, pb, pr, pt, pe⟩ sh))) []
  | _, _ => none⟩

theorem spec_l27Work_ok : SmrOK Try.prog 35 spec_l27Work_sm := by
  intro R args mem k r h
  simp only [spec_l27Work_sm] at h
  generalize hA : nilAVs args = args' at h
  split at h
  · rename_i pk pf ps pb pr pt pe sh
    refine ⟨_, _, Spec.nl hA (spec_of_run tt_ok mixed (spec_l27Work_C_Γ 0) Try.func35 (by kernel_rfl) (mem := []) (Nat.le_of_ble_eq_true (by kernel_rfl)) (spec_l27Work_C_Λ 0) ((spec_l27Work_run 0 pk pf ps pb pr pt pe sh _).trans ((spec_l27Work_ceq 0 pk pf ps pb pr pt pe sh _).trans ?_))), h⟩
    rfl
  · cases h

def Γ_spec_l27Work : FuncId → Option Smr := Γc 35 spec_l27Work_sm Γ_impl_PlanValid
theorem Γ_spec_l27Work_ok : ∀ f s, Γ_spec_l27Work f = some s → SmrOK Try.prog f s := Γc_ok spec_l27Work_ok Γ_impl_PlanValid_ok


/- spec.MasterValid -/

def spec_MasterValid_B4 {R : Type} (N : Nat) (rec : Int → List (List PV) → Int → Int → Int → Int → ByteArray → Int → Int → Int → Int → Option R) (vk : Int) (c0 : List (List PV)) (c0_1 : Int) (c0_2 : Int) (c0_3 : Int) (c0_4 : Int) (c0_5 : ByteArray) (c0_6 : Int) (c0_7 : Int) (c0_8 : Int) (c0_9 : Int) (k1 : Bool → Option R) (k2 : Option R) : Option R :=
  br (decide (vk < (c0.length : Int)))
  (getC c0 vk fun x2 =>
   dInt .i64 x2 fun n4 r3 => dStr r3 fun s6 r5 => dStr r5 fun s8 r7 =>
   chk (Nat.beq x2.length 3)
   (br (decide (n4 ≥ c0_1))
    (k1 false)
    (rec (IntKind.i64.wrap (vk + 1)) c0 c0_1 c0_2 c0_3 c0_4 c0_5 c0_6 c0_7 c0_8 c0_9)))
  (k2 )

def spec_MasterValid_L4 {R : Type} (N : Nat) (k1 : Bool → Option R) (k2 : Option R) : Nat → Int → List (List PV) → Int → Int → Int → Int → ByteArray → Int → Int → Int → Int → Option R
  | 0, _, _, _, _, _, _, _, _, _, _, _ => none
  | M + 1, vk, c0, c0_1, c0_2, c0_3, c0_4, c0_5, c0_6, c0_7, c0_8, c0_9 => spec_MasterValid_B4 N (spec_MasterValid_L4 N k1 k2 M) vk c0 c0_1 c0_2 c0_3 c0_4 c0_5 c0_6 c0_7 c0_8 c0_9 k1 k2

def spec_MasterValid_L4_x (e : Ex) : List Nat := (fun e => match e with
    | .normal => []
    | .exit id => match Nat.beq id 0 with | true => [] | false => []
    | .ret => [2]) e

def spec_MasterValid_dr6 : List DI := [⟨0, 0, [37, 41, 42], [], 0⟩, ⟨1, 1, [37, 41, 42], [], 0⟩, ⟨2, 0, [35, 36, 41, 42], [], 0⟩, ⟨3, 7, [41, 42], [], 0⟩, ⟨4, 15, [41, 42], [], 0⟩, ⟨5, 31, [41, 42], [], 0⟩, ⟨6, 0, [35, 36, 37, 38, 39, 40], [], 0⟩, ⟨7, 64, [35, 36, 37, 38, 39, 40], [], 0⟩, ⟨8, 255, [], [], 0⟩]

def spec_MasterValid_C4 (N : Nat) : CC := ⟨Γ_spec_l27Work, Λ0, (Δc 6 spec_MasterValid_dr6 Δ0), Μ0⟩

theorem spec_MasterValid_C4_Γ (N : Nat) : ∀ f s, (spec_MasterValid_C4 N).Γ f = some s → SmrOK Try.prog f s := Γ_spec_l27Work_ok

theorem spec_MasterValid_C4_Λ (N : Nat) : ∀ b ∈ loopsIn (lpF Try.f33 0), ∀ s, (spec_MasterValid_C4 N).Λ (lid b) = some s → LOK Try.prog 44 0 b s :=
  LOKs_of (bs := []) (by kernel_rfl) LOKs_n

theorem spec_MasterValid_B4_eq {R : Type} (N : Nat) (rec : TL → List AB → Option R) (vk : Int) (c0 : List (List PV)) (c0_1 : Int) (c0_2 : Int) (c0_3 : Int) (c0_4 : Int) (c0_5 : ByteArray) (c0_6 : Int) (c0_7 : Int) (c0_8 : Int) (c0_9 : Int) (k : Ex → TL → List AB → Option R) :
    (crun tt (spec_MasterValid_C4 N) 44 (lpF Try.f33 0)) [(1, .ref 0 0), (3, .d (.int .i64 vk))] [.sv [.d (.ls c0), .d (.int .i64 c0_1), .d (.int .i64 c0_2), .d (.int .i64 c0_3), .d (.int .i64 c0_4), .d (.str c0_5), .d (.int .i64 c0_6), .d (.int .i64 c0_7), .d (.int .i64 c0_8), .d (.int .i64 c0_9)]] (lnext 44 0 [] [1, 3] rec (lexit 44 0 spec_MasterValid_L4_x k)) =
    spec_MasterValid_B4 N (fun vk c0 c0_1 c0_2 c0_3 c0_4 c0_5 c0_6 c0_7 c0_8 c0_9 => rec [(1, .ref 0 0), (3, .d (.int .i64 vk))] [.sv [.d (.ls c0), .d (.int .i64 c0_1), .d (.int .i64 c0_2), .d (.int .i64 c0_3), .d (.int .i64 c0_4), .d (.str c0_5), .d (.int .i64 c0_6), .d (.int .i64 c0_7), .d (.int .i64 c0_8), .d (.int .i64 c0_9)]]) vk c0 c0_1 c0_2 c0_3 c0_4 c0_5 c0_6 c0_7 c0_8 c0_9 (fun v => k (.ret) [(2, .d (.bool v))] []) (k (.exit 0) [] []) := by kernel_rfl

theorem spec_MasterValid_L4_eq {R : Type} (N : Nat) (k : Ex → TL → List AB → Option R) : ∀ (M : Nat) (vk : Int) (c0 : List (List PV)) (c0_1 : Int) (c0_2 : Int) (c0_3 : Int) (c0_4 : Int) (c0_5 : ByteArray) (c0_6 : Int) (c0_7 : Int) (c0_8 : Int) (c0_9 : Int), loopG 44 0 [] (crun tt (spec_MasterValid_C4 N) 44 (lpF Try.f33 0)) [1, 3] (lexit 44 0 spec_MasterValid_L4_x k) M [(1, .ref 0 0), (3, .d (.int .i64 vk))] [.sv [.d (.ls c0), .d (.int .i64 c0_1), .d (.int .i64 c0_2), .d (.int .i64 c0_3), .d (.int .i64 c0_4), .d (.str c0_5), .d (.int .i64 c0_6), .d (.int .i64 c0_7), .d (.int .i64 c0_8), .d (.int .i64 c0_9)]] =
    spec_MasterValid_L4 N (fun v => k (.ret) [(2, .d (.bool v))] []) (k (.exit 0) [] []) M vk c0 c0_1 c0_2 c0_3 c0_4 c0_5 c0_6 c0_7 c0_8 c0_9
  | 0, _, _, _, _, _, _, _, _, _, _, _ => rfl
  | M + 1, vk, c0, c0_1, c0_2, c0_3, c0_4, c0_5, c0_6, c0_7, c0_8, c0_9 => (spec_MasterValid_B4_eq N (loopG 44 0 [] (crun tt (spec_MasterValid_C4 N) 44 (lpF Try.f33 0)) [1, 3] (lexit 44 0 spec_MasterValid_L4_x k) M) vk c0 c0_1 c0_2 c0_3 c0_4 c0_5 c0_6 c0_7 c0_8 c0_9 k).trans (congrArg (fun rec => spec_MasterValid_B4 N rec vk c0 c0_1 c0_2 c0_3 c0_4 c0_5 c0_6 c0_7 c0_8 c0_9 (fun v => k (.ret) [(2, .d (.bool v))] []) (k (.exit 0) [] [])) (funext fun vk => (funext fun c0 => (funext fun c0_1 => (funext fun c0_2 => (funext fun c0_3 => (funext fun c0_4 => (funext fun c0_5 => (funext fun c0_6 => (funext fun c0_7 => (funext fun c0_8 => (funext fun c0_9 => spec_MasterValid_L4_eq N k M vk c0 c0_1 c0_2 c0_3 c0_4 c0_5 c0_6 c0_7 c0_8 c0_9))))))))))))

def spec_MasterValid_L4_s (N : Nat) : LSum := fun R l m k => gcf 44 0 [] [1, 3] l m fun l2 m2 => match l2, m2 with
  | [(z1, .ref z2 z3), (z4, .d (.int .i64 vk))], [.sv [.d (.ls c0), .d (.int .i64 c0_1), .d (.int .i64 c0_2), .d (.int .i64 c0_3), .d (.int .i64 c0_4), .d (.str c0_5), .d (.int .i64 c0_6), .d (.int .i64 c0_7), .d (.int .i64 c0_8), .d (.int .i64 c0_9)]] => chk (Nat.beq z1 1 && Nat.beq z2 0 && Nat.beq z3 0 && Nat.beq z4 3) (spec_MasterValid_L4 N (fun v => k (.ret) [(2, .d (.bool v))] []) (k (.exit 0) [] []) N vk c0 c0_1 c0_2 c0_3 c0_4 c0_5 c0_6 c0_7 c0_8 c0_9)
  | _, _ => none

theorem spec_MasterValid_L4_ok (N : Nat) : LOK Try.prog 44 0 (lpF Try.f33 0) (spec_MasterValid_L4_s N) := by
  refine (lsum_ok tt_ok mixed (spec_MasterValid_C4_Γ N) (spec_MasterValid_C4_Λ N) [] [1, 3] spec_MasterValid_L4_x N).of ?_
  intro R l m k r h
  unfold spec_MasterValid_L4_s at h
  refine gcf_mono ?_ h
  intro l2 m2 h
  split at h
  · obtain ⟨hc, h⟩ := chk_eq h
    simp only [Bool.and_eq_true, Nat.beq_eq_true_eq] at hc
    obtain ⟨⟨⟨rfl, rfl⟩, rfl⟩, rfl⟩ := hc
    rw [spec_MasterValid_L4_eq]
    exact h
  · cases h

def spec_MasterValid_c {R : Type} (N : Nat) (xs : List (List PV)) (sh : Int) (pk : Int) (pf : Int) (ps : Int) (pb : ByteArray) (pr : Int) (pt : Int) (pe : Int) (tn : Int) (k : AV → List AB → Option R) : Option R :=
  bi (unRoutes xs) fun rs1 =>
  br (!(routesOk rs1))
  (k (.d (.bool false)) [])
  (br (!(decide ((1 : Int) ≤ sh) && decide (sh ≤ (8 : Int))))
   (k (.d (.bool false)) [])
   (br (!(workOk ⟨pk, pf, ps, pb, pr, pt, pe⟩ sh))
    (k (.d (.bool false)) [])
    (br (!(decide ((0 : Int) ≤ tn) && decide (tn ≤ (999 : Int))))
     (k (.d (.bool false)) [])
     (spec_MasterValid_L4 N (fun v =>
       k (.d (.bool v)) [])
      (k (.d (.bool true)) []) N 0 xs sh pk pf ps pb pr pt pe tn))))

def spec_MasterValid_C (N : Nat) : CC := ⟨Γ_spec_l27Work, (Λc 4 (spec_MasterValid_L4_s N) Λ0), (Δc 6 spec_MasterValid_dr6 Δ0), Μ0⟩

theorem spec_MasterValid_C_Γ (N : Nat) : ∀ f s, (spec_MasterValid_C N).Γ f = some s → SmrOK Try.prog f s := Γ_spec_l27Work_ok

theorem spec_MasterValid_C_Λ (N : Nat) : ∀ c, Try.f33.body = some c → ∀ b ∈ loopsIn c, ∀ s, (spec_MasterValid_C N).Λ (lid b) = some s → LOK Try.prog Try.f33.ntmps 0 b s :=
  LOKs_ofF (bs := [(lpF Try.f33 0)]) (by kernel_rfl) (LOKs_c (l := spec_MasterValid_L4_s N) (by kernel_rfl) (spec_MasterValid_L4_ok N) LOKs_n)

theorem spec_MasterValid_run {R : Type} (N : Nat) (xs : List (List PV)) (sh : Int) (pk : Int) (pf : Int) (ps : Int) (pb : ByteArray) (pr : Int) (pt : Int) (pe : Int) (tn : Int) (k : AV → List AB → Option R) :
    cfunN tt (spec_MasterValid_C N) Try.f33 0 [.agg [.d (.ls xs), .d (.int .i64 sh), .d (.int .i64 pk), .d (.int .i64 pf), .d (.int .i64 ps), .d (.str pb), .d (.int .i64 pr), .d (.int .i64 pt), .d (.int .i64 pe), .d (.int .i64 tn)]] [] k = spec_MasterValid_c N xs sh pk pf ps pb pr pt pe tn k := by kernel_rfl

theorem sMaster_loop {R : Type} (N : Nat) (rs : List Route) (sh pk pf ps pr pt pe tn : Int) (pb : ByteArray) (hl : rs.length ≤ 6) (k1 : Bool → Option R) (k2 : Option R) : ∀ (M i : Nat), i ≤ rs.length → rs.length < i + M → (∀ j, j < i → ∀ h : j < rs.length, rs[j].number < sh) →
    spec_MasterValid_L4 N k1 k2 M (i : Int) (rs.map Route.pv) sh pk pf ps pb pr pt pe tn = if rs.all fun r => decide (r.number < sh) then k2 else k1 false
  | 0, i, h1, h2, _ => by omega
  | M + 1, i, h1, h2, h3 => by
    simp only [spec_MasterValid_L4, spec_MasterValid_B4, List.length_map]
    by_cases h : i < rs.length
    · rw [lt_t h, br_t, getC_map h]
      simp only [Route.pv, Iv.pv, dInt_c, dStr_c, List.length_cons, List.length_nil, Nat.zero_add, Nat.reduceAdd, chk_beq, chk_t, br_t, br_f, bi_s, unRoutes_map, unIvs_map]
      by_cases h5 : rs[i].number < sh
      · rw [decide_eq_false (by omega), br_f, wrap_s (by omega)]
        exact sMaster_loop N rs sh pk pf ps pr pt pe tn pb hl k1 k2 M (i + 1) (by omega) (by omega) (upto_succ h3 (fun _ => h5))
      · rw [decide_eq_true (by omega), br_t, all_g_f h (decide_eq_false h5)]; rfl
    · rw [lt_f h, br_f, all_g_t (l := rs) (p := fun r => decide (r.number < sh)) (fun j hj => decide_eq_true (h3 j (by omega) hj))]; rfl
theorem routes_len {rs : List Route} (h : routesOk rs = true) : 1 ≤ rs.length ∧ rs.length ≤ 6 := by
  simp only [routesOk, partOk, Bool.and_eq_true, decide_eq_true_eq, List.length_map] at h
  omega
theorem spec_MasterValid_ceq {R : Type} (N : Nat) (sh : Int) (pk : Int) (pf : Int) (ps : Int) (pb : ByteArray) (pr : Int) (pt : Int) (pe : Int) (tn : Int) (rs : List Route) (k : AV → List AB → Option R) (hN : 8 ≤ N) (hp1 : (decide (rs.length ≤ 1048576)) = true) :
    spec_MasterValid_c N (rs.map Route.pv) sh pk pf ps pb pr pt pe tn k = k (.d (.bool (masterOk ⟨rs, sh, ⟨pk, pf, ps, pb, pr, pt, pe⟩, tn⟩))) [] := by
  simp only [spec_MasterValid_c, Route.pv, Iv.pv, dInt_c, dStr_c, List.length_cons, List.length_nil, Nat.zero_add, Nat.reduceAdd, chk_beq, chk_t, br_t, br_f, bi_s, unRoutes_map, unIvs_map]
  unfold masterOk
  cases hr : routesOk rs
  · simp [br]
  · have hl := (routes_len hr).2
    have := sMaster_loop N rs sh pk pf ps pr pt pe tn pb hl (fun v => k (.d (.bool v)) []) (k (.d (.bool true)) []) N 0 (by omega) (by omega) (fun j hj => by omega)
    rw [show ((0 : Nat) : Int) = 0 from rfl] at this
    rw [this]
    cases decide ((1 : Int) ≤ sh) <;> cases decide (sh ≤ (8 : Int)) <;> cases workOk ⟨pk, pf, ps, pb, pr, pt, pe⟩ sh <;> cases decide ((0 : Int) ≤ tn) <;> cases decide (tn ≤ (999 : Int)) <;> cases (rs.all fun r => decide (r.number < sh)) <;> rfl
def spec_MasterValid_sm : Smr := ⟨[false], fun R args mem k => match nilAVs args, mem with
  | [.agg [.d (.ls xs), .d (.int .i64 sh), .d (.int .i64 pk), .d (.int .i64 pf), .d (.int .i64 ps), .d (.str pb), .d (.int .i64 pr), .d (.int .i64 pt), .d (.int .i64 pe), .d (.int .i64 tn)]], [] => bi (unRoutes xs) fun rs => chk (decide (rs.length ≤ 1048576)) (k (.d (.bool (masterOk ⟨rs, sh, ⟨pk, pf, ps, pb, pr, pt, pe⟩, tn⟩))) [])
  | _, _ => none⟩

theorem spec_MasterValid_ok : SmrOK Try.prog 33 spec_MasterValid_sm := by
  intro R args mem k r h
  simp only [spec_MasterValid_sm] at h
  generalize hA : nilAVs args = args' at h
  split at h
  · rename_i xs sh pk pf ps pb pr pt pe tn
    obtain ⟨rs, hd0, h1⟩ := bi_eq h
    have hd0 := unRoutes_eq hd0
    subst hd0
    obtain ⟨hp1, h2⟩ := chk_eq h1
    replace h := h2
    refine ⟨_, _, Spec.nl hA (spec_of_run tt_ok mixed (spec_MasterValid_C_Γ (8)) Try.func33 (by kernel_rfl) (mem := []) (Nat.le_of_ble_eq_true (by kernel_rfl)) (spec_MasterValid_C_Λ (8)) ((spec_MasterValid_run (8) (rs.map Route.pv) sh pk pf ps pb pr pt pe tn _).trans ((spec_MasterValid_ceq (8) sh pk pf ps pb pr pt pe tn rs _ (Nat.le_refl _) hp1).trans ?_))), h⟩
    rfl
  · cases h

def Γ_spec_MasterValid : FuncId → Option Smr := Γc 33 spec_MasterValid_sm Γ_spec_l27Work
theorem Γ_spec_MasterValid_ok : ∀ f s, Γ_spec_MasterValid f = some s → SmrOK Try.prog f s := Γc_ok spec_MasterValid_ok Γ_spec_l27Work_ok


/- impl.MasterValid -/

def impl_MasterValid_B4 {R : Type} (N : Nat) (rec : List (List PV) → Int → Int → List (List PV) → Int → Int → Int → Int → ByteArray → Int → Int → Int → Int → Option R) (v : List (List PV)) (v_1 : Int) (v_2 : Int) (c0 : List (List PV)) (c0_1 : Int) (c0_2 : Int) (c0_3 : Int) (c0_4 : Int) (c0_5 : ByteArray) (c0_6 : Int) (c0_7 : Int) (c0_8 : Int) (c0_9 : Int) (k1 : Bool → Option R) (k2 : List (List PV) → Int → Int → Int → Int → ByteArray → Int → Int → Int → Int → Option R) : Option R :=
  br (decide (v_2 < v_1))
  (getC v v_2 fun x2 =>
   dInt .i64 x2 fun n4 r3 => dStr r3 fun s6 r5 => dStr r5 fun s8 r7 =>
   chk (Nat.beq x2.length 3)
   (br (decide (n4 ≥ c0_1))
    (k1 false)
    (rec v v_1 (IntKind.i64.wrap (v_2 + 1)) c0 c0_1 c0_2 c0_3 c0_4 c0_5 c0_6 c0_7 c0_8 c0_9)))
  (k2 c0 c0_1 c0_2 c0_3 c0_4 c0_5 c0_6 c0_7 c0_8 c0_9)

def impl_MasterValid_L4 {R : Type} (N : Nat) (k1 : Bool → Option R) (k2 : List (List PV) → Int → Int → Int → Int → ByteArray → Int → Int → Int → Int → Option R) : Nat → List (List PV) → Int → Int → List (List PV) → Int → Int → Int → Int → ByteArray → Int → Int → Int → Int → Option R
  | 0, _, _, _, _, _, _, _, _, _, _, _, _, _ => none
  | M + 1, v, v_1, v_2, c0, c0_1, c0_2, c0_3, c0_4, c0_5, c0_6, c0_7, c0_8, c0_9 => impl_MasterValid_B4 N (impl_MasterValid_L4 N k1 k2 M) v v_1 v_2 c0 c0_1 c0_2 c0_3 c0_4 c0_5 c0_6 c0_7 c0_8 c0_9 k1 k2

def impl_MasterValid_L4_x (e : Ex) : List Nat := (fun e => match e with
    | .normal => []
    | .exit id => match Nat.beq id 0 with | true => [1] | false => []
    | .ret => [2]) e

def impl_MasterValid_C4 (N : Nat) : CC := ⟨Γ_spec_MasterValid, Λ0, Δ0, Μ0⟩

theorem impl_MasterValid_C4_Γ (N : Nat) : ∀ f s, (impl_MasterValid_C4 N).Γ f = some s → SmrOK Try.prog f s := Γ_spec_MasterValid_ok

theorem impl_MasterValid_C4_Λ (N : Nat) : ∀ b ∈ loopsIn (lpF Try.f41 0), ∀ s, (impl_MasterValid_C4 N).Λ (lid b) = some s → LOK Try.prog 67 0 b s :=
  LOKs_of (bs := []) (by kernel_rfl) LOKs_n

theorem impl_MasterValid_B4_eq {R : Type} (N : Nat) (rec : TL → List AB → Option R) (v : List (List PV)) (v_1 : Int) (v_2 : Int) (c0 : List (List PV)) (c0_1 : Int) (c0_2 : Int) (c0_3 : Int) (c0_4 : Int) (c0_5 : ByteArray) (c0_6 : Int) (c0_7 : Int) (c0_8 : Int) (c0_9 : Int) (k : Ex → TL → List AB → Option R) :
    (crun tt (impl_MasterValid_C4 N) 67 (lpF Try.f41 0)) [(1, .ref 0 0), (30, .d (.ls v)), (31, .d (.int .i64 v_1)), (32, .d (.int .i64 v_2))] [.sv [.d (.ls c0), .d (.int .i64 c0_1), .d (.int .i64 c0_2), .d (.int .i64 c0_3), .d (.int .i64 c0_4), .d (.str c0_5), .d (.int .i64 c0_6), .d (.int .i64 c0_7), .d (.int .i64 c0_8), .d (.int .i64 c0_9)]] (lnext 67 0 [] [1, 30, 31, 32] rec (lexit 67 0 impl_MasterValid_L4_x k)) =
    impl_MasterValid_B4 N (fun v v_1 v_2 c0 c0_1 c0_2 c0_3 c0_4 c0_5 c0_6 c0_7 c0_8 c0_9 => rec [(1, .ref 0 0), (30, .d (.ls v)), (31, .d (.int .i64 v_1)), (32, .d (.int .i64 v_2))] [.sv [.d (.ls c0), .d (.int .i64 c0_1), .d (.int .i64 c0_2), .d (.int .i64 c0_3), .d (.int .i64 c0_4), .d (.str c0_5), .d (.int .i64 c0_6), .d (.int .i64 c0_7), .d (.int .i64 c0_8), .d (.int .i64 c0_9)]]) v v_1 v_2 c0 c0_1 c0_2 c0_3 c0_4 c0_5 c0_6 c0_7 c0_8 c0_9 (fun v => k (.ret) [(2, .d (.bool v))] []) (fun c0 c0_1 c0_2 c0_3 c0_4 c0_5 c0_6 c0_7 c0_8 c0_9 => k (.exit 0) [(1, .ref 0 0)] [.sv [.d (.ls c0), .d (.int .i64 c0_1), .d (.int .i64 c0_2), .d (.int .i64 c0_3), .d (.int .i64 c0_4), .d (.str c0_5), .d (.int .i64 c0_6), .d (.int .i64 c0_7), .d (.int .i64 c0_8), .d (.int .i64 c0_9)]]) := by kernel_rfl

theorem impl_MasterValid_L4_eq {R : Type} (N : Nat) (k : Ex → TL → List AB → Option R) : ∀ (M : Nat) (v : List (List PV)) (v_1 : Int) (v_2 : Int) (c0 : List (List PV)) (c0_1 : Int) (c0_2 : Int) (c0_3 : Int) (c0_4 : Int) (c0_5 : ByteArray) (c0_6 : Int) (c0_7 : Int) (c0_8 : Int) (c0_9 : Int), loopG 67 0 [] (crun tt (impl_MasterValid_C4 N) 67 (lpF Try.f41 0)) [1, 30, 31, 32] (lexit 67 0 impl_MasterValid_L4_x k) M [(1, .ref 0 0), (30, .d (.ls v)), (31, .d (.int .i64 v_1)), (32, .d (.int .i64 v_2))] [.sv [.d (.ls c0), .d (.int .i64 c0_1), .d (.int .i64 c0_2), .d (.int .i64 c0_3), .d (.int .i64 c0_4), .d (.str c0_5), .d (.int .i64 c0_6), .d (.int .i64 c0_7), .d (.int .i64 c0_8), .d (.int .i64 c0_9)]] =
    impl_MasterValid_L4 N (fun v => k (.ret) [(2, .d (.bool v))] []) (fun c0 c0_1 c0_2 c0_3 c0_4 c0_5 c0_6 c0_7 c0_8 c0_9 => k (.exit 0) [(1, .ref 0 0)] [.sv [.d (.ls c0), .d (.int .i64 c0_1), .d (.int .i64 c0_2), .d (.int .i64 c0_3), .d (.int .i64 c0_4), .d (.str c0_5), .d (.int .i64 c0_6), .d (.int .i64 c0_7), .d (.int .i64 c0_8), .d (.int .i64 c0_9)]]) M v v_1 v_2 c0 c0_1 c0_2 c0_3 c0_4 c0_5 c0_6 c0_7 c0_8 c0_9
  | 0, _, _, _, _, _, _, _, _, _, _, _, _, _ => rfl
  | M + 1, v, v_1, v_2, c0, c0_1, c0_2, c0_3, c0_4, c0_5, c0_6, c0_7, c0_8, c0_9 => (impl_MasterValid_B4_eq N (loopG 67 0 [] (crun tt (impl_MasterValid_C4 N) 67 (lpF Try.f41 0)) [1, 30, 31, 32] (lexit 67 0 impl_MasterValid_L4_x k) M) v v_1 v_2 c0 c0_1 c0_2 c0_3 c0_4 c0_5 c0_6 c0_7 c0_8 c0_9 k).trans (congrArg (fun rec => impl_MasterValid_B4 N rec v v_1 v_2 c0 c0_1 c0_2 c0_3 c0_4 c0_5 c0_6 c0_7 c0_8 c0_9 (fun v => k (.ret) [(2, .d (.bool v))] []) (fun c0 c0_1 c0_2 c0_3 c0_4 c0_5 c0_6 c0_7 c0_8 c0_9 => k (.exit 0) [(1, .ref 0 0)] [.sv [.d (.ls c0), .d (.int .i64 c0_1), .d (.int .i64 c0_2), .d (.int .i64 c0_3), .d (.int .i64 c0_4), .d (.str c0_5), .d (.int .i64 c0_6), .d (.int .i64 c0_7), .d (.int .i64 c0_8), .d (.int .i64 c0_9)]])) (funext fun v => (funext fun v_1 => (funext fun v_2 => (funext fun c0 => (funext fun c0_1 => (funext fun c0_2 => (funext fun c0_3 => (funext fun c0_4 => (funext fun c0_5 => (funext fun c0_6 => (funext fun c0_7 => (funext fun c0_8 => (funext fun c0_9 => impl_MasterValid_L4_eq N k M v v_1 v_2 c0 c0_1 c0_2 c0_3 c0_4 c0_5 c0_6 c0_7 c0_8 c0_9))))))))))))))

def impl_MasterValid_L4_s (N : Nat) : LSum := fun R l m k => gcf 67 0 [] [1, 30, 31, 32] l m fun l2 m2 => match l2, m2 with
  | [(z1, .ref z2 z3), (z4, .d (.ls v)), (z5, .d (.int .i64 v_1)), (z6, .d (.int .i64 v_2))], [.sv [.d (.ls c0), .d (.int .i64 c0_1), .d (.int .i64 c0_2), .d (.int .i64 c0_3), .d (.int .i64 c0_4), .d (.str c0_5), .d (.int .i64 c0_6), .d (.int .i64 c0_7), .d (.int .i64 c0_8), .d (.int .i64 c0_9)]] => chk (Nat.beq z1 1 && Nat.beq z2 0 && Nat.beq z3 0 && Nat.beq z4 30 && Nat.beq z5 31 && Nat.beq z6 32) (impl_MasterValid_L4 N (fun v => k (.ret) [(2, .d (.bool v))] []) (fun c0 c0_1 c0_2 c0_3 c0_4 c0_5 c0_6 c0_7 c0_8 c0_9 => k (.exit 0) [(1, .ref 0 0)] [.sv [.d (.ls c0), .d (.int .i64 c0_1), .d (.int .i64 c0_2), .d (.int .i64 c0_3), .d (.int .i64 c0_4), .d (.str c0_5), .d (.int .i64 c0_6), .d (.int .i64 c0_7), .d (.int .i64 c0_8), .d (.int .i64 c0_9)]]) N v v_1 v_2 c0 c0_1 c0_2 c0_3 c0_4 c0_5 c0_6 c0_7 c0_8 c0_9)
  | _, _ => none

theorem impl_MasterValid_L4_ok (N : Nat) : LOK Try.prog 67 0 (lpF Try.f41 0) (impl_MasterValid_L4_s N) := by
  refine (lsum_ok tt_ok mixed (impl_MasterValid_C4_Γ N) (impl_MasterValid_C4_Λ N) [] [1, 30, 31, 32] impl_MasterValid_L4_x N).of ?_
  intro R l m k r h
  unfold impl_MasterValid_L4_s at h
  refine gcf_mono ?_ h
  intro l2 m2 h
  split at h
  · obtain ⟨hc, h⟩ := chk_eq h
    simp only [Bool.and_eq_true, Nat.beq_eq_true_eq] at hc
    obtain ⟨⟨⟨⟨⟨rfl, rfl⟩, rfl⟩, rfl⟩, rfl⟩, rfl⟩ := hc
    rw [impl_MasterValid_L4_eq]
    exact h
  · cases h

def impl_MasterValid_c {R : Type} (N : Nat) (xs : List (List PV)) (sh : Int) (pk : Int) (pf : Int) (ps : Int) (pb : ByteArray) (pr : Int) (pt : Int) (pe : Int) (tn : Int) (k : AV → List AB → Option R) : Option R :=
  bi (unRoutes xs) fun rs1 =>
  chk (decide (rs1.length ≤ 1048576))
  (br (!(routesOk rs1))
   (k (.d (.bool false)) [])
   (br (decide (sh < 1))
    (k (.d (.bool false)) [])
    (br (decide (sh > 8))
     (k (.d (.bool false)) [])
     (br (decide (tn < 0))
      (k (.d (.bool false)) [])
      (br (decide (tn > 999))
       (k (.d (.bool false)) [])
       (impl_MasterValid_L4 N (fun v =>
         k (.d (.bool v)) [])
        (fun c0 c0_1 c0_2 c0_3 c0_4 c0_5 c0_6 c0_7 c0_8 c0_9 =>
         br ((c0_2 == 0) && ((c0_3 == 0) && ((c0_4 == 0) && (decide (c0_5 = ⟨#[]⟩) && ((c0_6 == 0) && ((c0_7 == 0) && ((c0_8 == 0) && true)))))))
         (k (.d (.bool true)) [])
         (br (planOk ⟨c0_2, c0_3, c0_4, c0_5, c0_6, c0_7, c0_8⟩)
          (br (decide (c0_3 < c0_1))
           (k (.d (.bool (decide (c0_4 < c0_1)))) [])
           (k (.d (.bool false)) []))
          (k (.d (.bool false)) []))) N xs (xs.length : Int) 0 xs sh pk pf ps pb pr pt pe tn))))))

def impl_MasterValid_C (N : Nat) : CC := ⟨Γ_spec_MasterValid, (Λc 4 (impl_MasterValid_L4_s N) Λ0), Δ0, Μ0⟩

theorem impl_MasterValid_C_Γ (N : Nat) : ∀ f s, (impl_MasterValid_C N).Γ f = some s → SmrOK Try.prog f s := Γ_spec_MasterValid_ok

theorem impl_MasterValid_C_Λ (N : Nat) : ∀ c, Try.f41.body = some c → ∀ b ∈ loopsIn c, ∀ s, (impl_MasterValid_C N).Λ (lid b) = some s → LOK Try.prog Try.f41.ntmps 0 b s :=
  LOKs_ofF (bs := [(lpF Try.f41 0)]) (by kernel_rfl) (LOKs_c (l := impl_MasterValid_L4_s N) (by kernel_rfl) (impl_MasterValid_L4_ok N) LOKs_n)

theorem impl_MasterValid_run {R : Type} (N : Nat) (xs : List (List PV)) (sh : Int) (pk : Int) (pf : Int) (ps : Int) (pb : ByteArray) (pr : Int) (pt : Int) (pe : Int) (tn : Int) (k : AV → List AB → Option R) :
    cfunN tt (impl_MasterValid_C N) Try.f41 0 [.agg [.d (.ls xs), .d (.int .i64 sh), .d (.int .i64 pk), .d (.int .i64 pf), .d (.int .i64 ps), .d (.str pb), .d (.int .i64 pr), .d (.int .i64 pt), .d (.int .i64 pe), .d (.int .i64 tn)]] [] k = impl_MasterValid_c N xs sh pk pf ps pb pr pt pe tn k := by kernel_rfl

theorem iMaster_loop {R : Type} (N : Nat) (rs : List Route) (sh pk pf ps pr pt pe tn : Int) (pb : ByteArray) (hl : rs.length ≤ 6) (k1 : Bool → Option R) (k2 : List (List PV) → Int → Int → Int → Int → ByteArray → Int → Int → Int → Int → Option R) : ∀ (M i : Nat), i ≤ rs.length → rs.length < i + M → (∀ j, j < i → ∀ h : j < rs.length, rs[j].number < sh) →
    impl_MasterValid_L4 N k1 k2 M (rs.map Route.pv) rs.length (i : Int) (rs.map Route.pv) sh pk pf ps pb pr pt pe tn = if rs.all fun r => decide (r.number < sh) then k2 (rs.map Route.pv) sh pk pf ps pb pr pt pe tn else k1 false
  | 0, i, h1, h2, _ => by omega
  | M + 1, i, h1, h2, h3 => by
    simp only [impl_MasterValid_L4, impl_MasterValid_B4]
    by_cases h : i < rs.length
    · rw [lt_t h, br_t, getC_map h]
      simp only [Route.pv, Iv.pv, dInt_c, dStr_c, List.length_cons, List.length_nil, Nat.zero_add, Nat.reduceAdd, chk_beq, chk_t, br_t, br_f, bi_s, unRoutes_map, unIvs_map]
      by_cases h5 : rs[i].number < sh
      · rw [decide_eq_false (by omega), br_f, wrap_s (by omega)]
        exact iMaster_loop N rs sh pk pf ps pr pt pe tn pb hl k1 k2 M (i + 1) (by omega) (by omega) (upto_succ h3 (fun _ => h5))
      · rw [decide_eq_true (by omega), br_t, all_g_f h (decide_eq_false h5)]; rfl
    · rw [lt_f h, br_f, all_g_t (l := rs) (p := fun r => decide (r.number < sh)) (fun j hj => decide_eq_true (h3 j (by omega) hj))]; rfl
theorem impl_MasterValid_ceq {R : Type} (N : Nat) (sh : Int) (pk : Int) (pf : Int) (ps : Int) (pb : ByteArray) (pr : Int) (pt : Int) (pe : Int) (tn : Int) (rs : List Route) (k : AV → List AB → Option R) (hN : 8 ≤ N) (hp1 : (decide (rs.length ≤ 1048576)) = true) :
    impl_MasterValid_c N (rs.map Route.pv) sh pk pf ps pb pr pt pe tn k = k (.d (.bool (masterOk ⟨rs, sh, ⟨pk, pf, ps, pb, pr, pt, pe⟩, tn⟩))) [] := by
  simp only [impl_MasterValid_c, Route.pv, Iv.pv, dInt_c, dStr_c, List.length_cons, List.length_nil, Nat.zero_add, Nat.reduceAdd, chk_beq, chk_t, br_t, br_f, bi_s, unRoutes_map, unIvs_map, hp1, List.length_map]
  unfold masterOk
  cases hr : routesOk rs
  · simp [br]
  · have hl := (routes_len hr).2
    have := fun k1 k2 => iMaster_loop (R := R) N rs sh pk pf ps pr pt pe tn pb hl k1 k2 N 0 (by omega) (by omega) (fun j hj => by omega)
    rw [show ((0 : Nat) : Int) = 0 from rfl] at this
    rw [this]
    simp only [noPlan_eq, br_kb]
    rw [show decide (sh < 1) = !decide (1 ≤ sh) by by_cases h : 1 ≤ sh <;> simp [h]; omega,
      show decide (sh > 8) = !decide (sh ≤ 8) by by_cases h : sh ≤ 8 <;> simp [h]; omega,
      show decide (tn < 0) = !decide (0 ≤ tn) by by_cases h : 0 ≤ tn <;> simp [h]; omega,
      show decide (tn > 999) = !decide (tn ≤ 999) by by_cases h : tn ≤ 999 <;> simp [h]; omega]
    unfold workOk
    cases decide (1 ≤ sh) <;> cases decide (sh ≤ 8) <;> cases decide (0 ≤ tn) <;> cases decide (tn ≤ 999) <;> cases (rs.all fun r => decide (r.number < sh)) <;> cases decide (Plan.mk pk pf ps pb pr pt pe = noPlan) <;> cases planOk ⟨pk, pf, ps, pb, pr, pt, pe⟩ <;> cases decide (pf < sh) <;> rfl
def impl_MasterValid_sm : Smr := ⟨[false], fun R args mem k => match nilAVs args, mem with
  | [.agg [.d (.ls xs), .d (.int .i64 sh), .d (.int .i64 pk), .d (.int .i64 pf), .d (.int .i64 ps), .d (.str pb), .d (.int .i64 pr), .d (.int .i64 pt), .d (.int .i64 pe), .d (.int .i64 tn)]], [] => bi (unRoutes xs) fun rs => chk (decide (rs.length ≤ 1048576)) (k (.d (.bool (masterOk ⟨rs, sh, ⟨pk, pf, ps, pb, pr, pt, pe⟩, tn⟩))) [])
  | _, _ => none⟩

theorem impl_MasterValid_ok : SmrOK Try.prog 41 impl_MasterValid_sm := by
  intro R args mem k r h
  simp only [impl_MasterValid_sm] at h
  generalize hA : nilAVs args = args' at h
  split at h
  · rename_i xs sh pk pf ps pb pr pt pe tn
    obtain ⟨rs, hd0, h1⟩ := bi_eq h
    have hd0 := unRoutes_eq hd0
    subst hd0
    obtain ⟨hp1, h2⟩ := chk_eq h1
    replace h := h2
    refine ⟨_, _, Spec.nl hA (spec_of_run tt_ok mixed (impl_MasterValid_C_Γ (8)) Try.func41 (by kernel_rfl) (mem := []) (Nat.le_of_ble_eq_true (by kernel_rfl)) (impl_MasterValid_C_Λ (8)) ((impl_MasterValid_run (8) (rs.map Route.pv) sh pk pf ps pb pr pt pe tn _).trans ((impl_MasterValid_ceq (8) sh pk pf ps pb pr pt pe tn rs _ (Nat.le_refl _) hp1).trans ?_))), h⟩
    rfl
  · cases h

def Γ_impl_MasterValid : FuncId → Option Smr := Γc 41 impl_MasterValid_sm Γ_spec_MasterValid
theorem Γ_impl_MasterValid_ok : ∀ f s, Γ_impl_MasterValid f = some s → SmrOK Try.prog f s := Γc_ok impl_MasterValid_ok Γ_spec_MasterValid_ok

end Go.Proofs.Ytfeiaibdnnhlaaa
