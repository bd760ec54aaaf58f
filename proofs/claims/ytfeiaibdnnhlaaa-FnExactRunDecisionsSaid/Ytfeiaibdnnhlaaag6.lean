import Derived.Test.Ytfeiaibdnnhlaaag5
/- The laws' marks; the law. -/
set_option linter.unusedVariables false
set_option linter.unusedSimpArgs false
namespace Go.Proofs.Ytfeiaibdnnhlaaa

def digs : Nat → Int → ByteArray → ByteArray
  | 0, _, out => out
  | n + 1, v, out => if v > 0 then digs n (v.tdiv 10) (⟨[UInt8.ofNat ((IntKind.u8.wrap (IntKind.i64.wrap (48 + (v.tmod 10)))).toNat)].toArray⟩ ++ out) else out
theorem digs_stable : ∀ (a b : Nat) (v : Int) (out : ByteArray), v < 10 ^ a → a ≤ b → digs a v out = digs b v out
  | 0, b, v, out, h, _ => by
    have hv : ¬ v > 0 := by have : (10 : Int) ^ 0 = 1 := rfl; omega
    cases b with
    | zero => rfl
    | succ b => simp only [digs, if_neg hv]
  | a + 1, b, v, out, h, hb => by
    cases b with
    | zero => omega
    | succ b =>
      simp only [digs]
      by_cases hv : v > 0
      · rw [if_pos hv, if_pos hv]
        refine digs_stable a b _ _ ?_ (by omega)
        rw [Int.tdiv_eq_ediv_of_nonneg (by omega)]
        have e : (10 : Int) ^ (a + 1) = 10 ^ a * 10 := by rw [Int.pow_succ]
        rw [e] at h
        omega
      · rw [if_neg hv, if_neg hv]
def markT (v : Int) : ByteArray := if v ≤ 0 then ⟨#[109, 48]⟩ else ⟨#[109]⟩ ++ digs 8 v ⟨#[]⟩

/- laws.markText -/

def laws_markText_B4 {R : Type} (N : Nat) (rec : Int → ByteArray → Option R) (vk : Int) (out : ByteArray) (k1 : ByteArray → Option R) : Option R :=
  br (decide (vk > 0))
  (chk (decide ((((⟨[UInt8.ofNat ((IntKind.u8.wrap (IntKind.i64.wrap (48 + (vk.tmod 10)))).toNat)].toArray⟩ : ByteArray).size + out.size : Nat) : Int) ≤ IntKind.i64.max))
   (rec (IntKind.i64.wrap (vk.tdiv 10)) ((⟨[UInt8.ofNat ((IntKind.u8.wrap (IntKind.i64.wrap (48 + (vk.tmod 10)))).toNat)].toArray⟩ : ByteArray) ++ out)))
  (k1 out)

def laws_markText_L4 {R : Type} (N : Nat) (k1 : ByteArray → Option R) : Nat → Int → ByteArray → Option R
  | 0, _, _ => none
  | M + 1, vk, out => laws_markText_B4 N (laws_markText_L4 N k1 M) vk out k1

def laws_markText_L4_x (e : Ex) : List Nat := (fun e => match e with
    | .normal => []
    | .exit id => match Nat.beq id 0 with | true => [3] | false => []
    | .ret => []) e

def laws_markText_C4 (N : Nat) : CC := ⟨Γ_spec_ApplyDecision, Λ0, Δ0, Μ0⟩

theorem laws_markText_C4_Γ (N : Nat) : ∀ f s, (laws_markText_C4 N).Γ f = some s → SmrOK Try.prog f s := Γ_spec_ApplyDecision_ok

theorem laws_markText_C4_Λ (N : Nat) : ∀ b ∈ loopsIn (lpF Try.f53 0), ∀ s, (laws_markText_C4 N).Λ (lid b) = some s → LOK Try.prog 20 0 b s :=
  LOKs_of (bs := []) (by kernel_rfl) LOKs_n

theorem laws_markText_B4_eq {R : Type} (N : Nat) (rec : TL → List AB → Option R) (vk : Int) (out : ByteArray) (k : Ex → TL → List AB → Option R) :
    (crun tt (laws_markText_C4 N) 20 (lpF Try.f53 0)) [(0, .d (.int .i64 vk)), (3, .d (.str out))] [] (lnext 20 0 [] [0, 3] rec (lexit 20 0 laws_markText_L4_x k)) =
    laws_markText_B4 N (fun vk out => rec [(0, .d (.int .i64 vk)), (3, .d (.str out))] []) vk out (fun out => k (.exit 0) [(3, .d (.str out))] []) := by kernel_rfl

theorem laws_markText_L4_eq {R : Type} (N : Nat) (k : Ex → TL → List AB → Option R) : ∀ (M : Nat) (vk : Int) (out : ByteArray), loopG 20 0 [] (crun tt (laws_markText_C4 N) 20 (lpF Try.f53 0)) [0, 3] (lexit 20 0 laws_markText_L4_x k) M [(0, .d (.int .i64 vk)), (3, .d (.str out))] [] =
    laws_markText_L4 N (fun out => k (.exit 0) [(3, .d (.str out))] []) M vk out
  | 0, _, _ => rfl
  | M + 1, vk, out => (laws_markText_B4_eq N (loopG 20 0 [] (crun tt (laws_markText_C4 N) 20 (lpF Try.f53 0)) [0, 3] (lexit 20 0 laws_markText_L4_x k) M) vk out k).trans (congrArg (fun rec => laws_markText_B4 N rec vk out (fun out => k (.exit 0) [(3, .d (.str out))] [])) (funext fun vk => (funext fun out => laws_markText_L4_eq N k M vk out)))

def laws_markText_L4_s (N : Nat) : LSum := fun R l m k => gcf 20 0 [] [0, 3] l m fun l2 m2 => match l2, m2 with
  | [(z1, .d (.int .i64 vk)), (z2, .d (.str out))], [] => chk (Nat.beq z1 0 && Nat.beq z2 3) (laws_markText_L4 N (fun out => k (.exit 0) [(3, .d (.str out))] []) N vk out)
  | _, _ => none

theorem laws_markText_L4_ok (N : Nat) : LOK Try.prog 20 0 (lpF Try.f53 0) (laws_markText_L4_s N) := by
  refine (lsum_ok tt_ok mixed (laws_markText_C4_Γ N) (laws_markText_C4_Λ N) [] [0, 3] laws_markText_L4_x N).of ?_
  intro R l m k r h
  unfold laws_markText_L4_s at h
  refine gcf_mono ?_ h
  intro l2 m2 h
  split at h
  · obtain ⟨hc, h⟩ := chk_eq h
    simp only [Bool.and_eq_true, Nat.beq_eq_true_eq] at hc
    obtain ⟨rfl, rfl⟩ := hc
    rw [laws_markText_L4_eq]
    exact h
  · cases h

def laws_markText_c {R : Type} (N : Nat) (v : Int) (k : AV → List AB → Option R) : Option R :=
  br (decide (v ≤ 0))
  (k (.d (.str (⟨#[109, 48]⟩ : ByteArray))) [])
  (laws_markText_L4 N (fun out =>
    chk (decide ((((⟨#[109]⟩ : ByteArray).size + out.size : Nat) : Int) ≤ IntKind.i64.max))
    (k (.d (.str ((⟨#[109]⟩ : ByteArray) ++ out))) [])) N v (⟨#[]⟩ : ByteArray))

def laws_markText_C (N : Nat) : CC := ⟨Γ_spec_ApplyDecision, (Λc 4 (laws_markText_L4_s N) Λ0), Δ0, Μ0⟩

theorem laws_markText_C_Γ (N : Nat) : ∀ f s, (laws_markText_C N).Γ f = some s → SmrOK Try.prog f s := Γ_spec_ApplyDecision_ok

theorem laws_markText_C_Λ (N : Nat) : ∀ c, Try.f53.body = some c → ∀ b ∈ loopsIn c, ∀ s, (laws_markText_C N).Λ (lid b) = some s → LOK Try.prog Try.f53.ntmps 0 b s :=
  LOKs_ofF (bs := [(lpF Try.f53 0)]) (by kernel_rfl) (LOKs_c (l := laws_markText_L4_s N) (by kernel_rfl) (laws_markText_L4_ok N) LOKs_n)

theorem laws_markText_run {R : Type} (N : Nat) (v : Int) (k : AV → List AB → Option R) :
    cfunN tt (laws_markText_C N) Try.f53 0 [.d (.int .i64 v)] [] k = laws_markText_c N v k := by kernel_rfl

theorem markText_loop {R : Type} (N : Nat) (k1 : ByteArray → Option R) : ∀ (d M : Nat) (v : Int) (out : ByteArray), v < 10 ^ d → v ≤ 16777216 → out.size + d ≤ 1000 → d < M →
    laws_markText_L4 N k1 M v out = k1 (digs d v out)
  | d, 0, v, out, h1, h2, h3, h4 => by omega
  | 0, M + 1, v, out, h1, h2, h3, _ => by
    have : (10 : Int) ^ 0 = 1 := rfl
    simp only [laws_markText_L4, laws_markText_B4, bnd, digs]
    rw [decide_eq_false (by omega), br_f]
  | d + 1, M + 1, v, out, h1, h2, h3, h4 => by
    simp only [laws_markText_L4, laws_markText_B4, bnd, digs]
    by_cases h : v > 0
    · rw [decide_eq_true h, br_t, if_pos h]
      have hs : (ByteArray.mk [UInt8.ofNat ((IntKind.u8.wrap (IntKind.i64.wrap (48 + (v.tmod 10)))).toNat)].toArray).size = 1 := rfl
      have hm : IntKind.i64.max = 9223372036854775807 := by decide
      rw [hs, decide_eq_true (by rw [hm]; omega), chk_t]
      have hd : v.tdiv 10 = v / 10 := Int.tdiv_eq_ediv_of_nonneg (by omega)
      rw [wrap_id (n := v.tdiv 10) (by omega) (by omega)]
      rw [Int.pow_succ] at h1
      exact markText_loop N k1 d M _ _ (by rw [hd]; omega) (by rw [hd]; omega) (by rw [ByteArray.size_append, hs]; omega) (by omega)
    · rw [decide_eq_false h, br_f, if_neg h]
theorem digs_size : ∀ (n : Nat) (v : Int) (out : ByteArray), (digs n v out).size ≤ out.size + n
  | 0, v, out => Nat.le_refl _
  | n + 1, v, out => by
    simp only [digs]
    split
    · refine Nat.le_trans (digs_size n _ _) ?_
      rw [ByteArray.size_append]
      show 1 + out.size + n ≤ _
      omega
    · omega
theorem laws_markText_ceq {R : Type} (N : Nat) (v : Int) (k : AV → List AB → Option R) (hN : 32 ≤ N) (hp1 : (decide (0 ≤ v) && decide (v ≤ 16777216)) = true) :
    laws_markText_c N v k = k (.d (.str (markT v))) [] := by
  simp only [decide_eq_true_eq, Bool.and_eq_true] at hp1
  simp only [laws_markText_c, markT]
  by_cases h : v ≤ 0
  · rw [decide_eq_true h, br_t, if_pos h]
  · rw [decide_eq_false h, br_f, if_neg h]
    have h8 : v < 10 ^ 8 := by have : (10 : Int) ^ 8 = 100000000 := by decide
                               omega
    have hs := digs_size 8 v ⟨#[]⟩
    have h0 : (ByteArray.mk #[]).size = 0 := rfl
    have h1 : (ByteArray.mk #[109]).size = 1 := rfl
    have hm : IntKind.i64.max = 9223372036854775807 := by decide
    rw [markText_loop N _ 8 N v ⟨#[]⟩ h8 hp1.2 (by rw [h0]; omega) (by omega), h1, decide_eq_true (by rw [hm]; omega), chk_t]
def laws_markText_sm : Smr := ⟨[false], fun R args mem k => match nilAVs args, mem with
  | [.d (.int .i64 v)], [] => chk (decide (0 ≤ v) && decide (v ≤ 16777216)) (k (.d (.str (markT v))) [])
  | _, _ => none⟩

theorem laws_markText_ok : SmrOK Try.prog 53 laws_markText_sm := by
  intro R args mem k r h
  simp only [laws_markText_sm] at h
  generalize hA : nilAVs args = args' at h
  split at h
  · rename_i v
    obtain ⟨hp1, h1⟩ := chk_eq h
    replace h := h1
    refine ⟨_, _, Spec.nl hA (spec_of_run tt_ok mixed (laws_markText_C_Γ (32)) Try.func53 (by kernel_rfl) (mem := []) (Nat.le_of_ble_eq_true (by kernel_rfl)) (laws_markText_C_Λ (32)) ((laws_markText_run (32) v _).trans ((laws_markText_ceq (32) v _ (Nat.le_refl _) hp1).trans ?_))), h⟩
    rfl
  · cases h

def Γ_laws_markText : FuncId → Option Smr := Γc 53 laws_markText_sm Γ_spec_ApplyDecision
theorem Γ_laws_markText_ok : ∀ f s, Γ_laws_markText f = some s → SmrOK Try.prog f s := Γc_ok laws_markText_ok Γ_spec_ApplyDecision_ok


def markR (v : Int) : Route := ⟨v, markT (v + 1), markT (v + 2)⟩
def markRs : List Route → Int → List Route
  | [], _ => []
  | _ :: l, v => markR v :: markRs l (v + 3)
def heldRs : List Route → Int → Int
  | [], v => v
  | r :: l, v => if r = markR v then heldRs l (v + 3) else -1
theorem markRs_len : ∀ (l : List Route) (v : Int), (markRs l v).length = l.length
  | [], _ => rfl
  | _ :: l, v => by simp only [markRs, List.length_cons, markRs_len l]
theorem held_mark : ∀ (l : List Route) (v : Int), heldRs (markRs l v) v = v + 3 * (l.length : Int)
  | [], v => by simp [markRs, heldRs]
  | _ :: l, v => by simp only [markRs, heldRs, if_true, held_mark l, List.length_cons]; omega

theorem set_at {α : Type} (d : List α) (x y : α) (r : List α) : (d ++ x :: r).set d.length y = d ++ y :: r := by simp
theorem get_at {R : Type} (d : List Route) (x : Route) (r : List Route) (k : List PV → Option R) : getN ((d ++ x :: r).map Route.pv) d.length k = k x.pv := by
  rw [getN_map (by simp)]; simp
theorem pset (d : List Route) (x : Route) (r : List Route) (y : Route) {c : List PV} (h : c = y.pv) : ((d ++ x :: r).map Route.pv).set d.length c = (d ++ y :: r).map Route.pv := by
  subst h; rw [← List.map_set, set_at]
theorem pset0 (d : List Route) (x : Route) (r : List Route) (n : Int) : ((d ++ x :: r).map Route.pv).set d.length (x.pv.set 0 (.int .i64 n)) = (d ++ ⟨n, x.low, x.high⟩ :: r).map Route.pv := pset d x r ⟨n, x.low, x.high⟩ rfl
theorem pset1 (d : List Route) (x : Route) (r : List Route) (n : ByteArray) : ((d ++ x :: r).map Route.pv).set d.length (x.pv.set 1 (.str n)) = (d ++ ⟨x.number, n, x.high⟩ :: r).map Route.pv := pset d x r ⟨x.number, n, x.high⟩ rfl
theorem pset2 (d : List Route) (x : Route) (r : List Route) (n : ByteArray) : ((d ++ x :: r).map Route.pv).set d.length (x.pv.set 2 (.str n)) = (d ++ ⟨x.number, x.low, n⟩ :: r).map Route.pv := pset d x r ⟨x.number, x.low, n⟩ rfl
/- laws.markRouteS -/

def laws_markRouteS_B2 {R : Type} (N : Nat) (rec : Int → Int → List (List PV) → Option R) (vk : Int) (i : Int) (c0 : List (List PV)) (k1 : Int → List (List PV) → Option R) : Option R :=
  br (decide (i < (c0.length : Int)))
  (chk (decide (0 ≤ i) && decide (i < (c0.length : Int)))
   (getN c0 i.toNat fun x1 =>
    chk (decide (1 ≤ x1.length))
    (chk (decide (0 ≤ (IntKind.i64.wrap (vk + 1))) && decide ((IntKind.i64.wrap (vk + 1)) ≤ 16777216))
     (chk (decide (0 ≤ i) && decide (i < ((c0.set i.toNat (x1.set 0 (.int .i64 vk))).length : Int)))
      (getN (c0.set i.toNat (x1.set 0 (.int .i64 vk))) i.toNat fun x2 =>
       chk (decide (2 ≤ x2.length))
       (bnd ((c0.set i.toNat (x1.set 0 (.int .i64 vk))).set i.toNat (x2.set 1 (.str (markT (IntKind.i64.wrap (vk + 1)))))) fun y3 =>
        chk (decide (0 ≤ (IntKind.i64.wrap ((IntKind.i64.wrap (vk + 1)) + 1))) && decide ((IntKind.i64.wrap ((IntKind.i64.wrap (vk + 1)) + 1)) ≤ 16777216))
        (chk (decide (0 ≤ i) && decide (i < (y3.length : Int)))
         (getN y3 i.toNat fun x4 =>
          chk (decide (3 ≤ x4.length))
          (bnd (IntKind.i64.wrap ((IntKind.i64.wrap ((IntKind.i64.wrap (vk + 1)) + 1)) + 1)) fun i5 =>
           rec i5 (IntKind.i64.wrap (i + 1)) (y3.set i.toNat (x4.set 2 (.str (markT (IntKind.i64.wrap ((IntKind.i64.wrap (vk + 1)) + 1)))))))))))))))
  (k1 vk c0)

def laws_markRouteS_L2 {R : Type} (N : Nat) (k1 : Int → List (List PV) → Option R) : Nat → Int → Int → List (List PV) → Option R
  | 0, _, _, _ => none
  | M + 1, vk, i, c0 => laws_markRouteS_B2 N (laws_markRouteS_L2 N k1 M) vk i c0 k1

def laws_markRouteS_L2_x (e : Ex) : List Nat := (fun e => match e with
    | .normal => []
    | .exit id => match Nat.beq id 0 with | true => [1] | false => []
    | .ret => []) e

def laws_markRouteS_C2 (N : Nat) : CC := ⟨Γ_laws_markText, Λ0, Δ0, Μ0⟩

theorem laws_markRouteS_C2_Γ (N : Nat) : ∀ f s, (laws_markRouteS_C2 N).Γ f = some s → SmrOK Try.prog f s := Γ_laws_markText_ok

theorem laws_markRouteS_C2_Λ (N : Nat) : ∀ b ∈ loopsIn (lpF Try.f48 0), ∀ s, (laws_markRouteS_C2 N).Λ (lid b) = some s → LOK Try.prog 38 1 b s :=
  LOKs_of (bs := []) (by kernel_rfl) LOKs_n

theorem laws_markRouteS_B2_eq {R : Type} (N : Nat) (rec : TL → List AB → Option R) (vk : Int) (i : Int) (c0 : List (List PV)) (k : Ex → TL → List AB → Option R) :
    (crun tt (laws_markRouteS_C2 N) 38 (lpF Try.f48 0)) [(0, .sl 0), (1, .d (.int .i64 vk)), (5, .d (.int .i64 i))] [.ar 3 0 c0] (lnext 38 1 [] [0, 1, 5] rec (lexit 38 1 laws_markRouteS_L2_x k)) =
    laws_markRouteS_B2 N (fun vk i c0 => rec [(0, .sl 0), (1, .d (.int .i64 vk)), (5, .d (.int .i64 i))] [.ar 3 0 c0]) vk i c0 (fun vk c0 => k (.exit 0) [(1, .d (.int .i64 vk))] [.ar 3 0 c0]) := by kernel_rfl

theorem laws_markRouteS_L2_eq {R : Type} (N : Nat) (k : Ex → TL → List AB → Option R) : ∀ (M : Nat) (vk : Int) (i : Int) (c0 : List (List PV)), loopG 38 1 [] (crun tt (laws_markRouteS_C2 N) 38 (lpF Try.f48 0)) [0, 1, 5] (lexit 38 1 laws_markRouteS_L2_x k) M [(0, .sl 0), (1, .d (.int .i64 vk)), (5, .d (.int .i64 i))] [.ar 3 0 c0] =
    laws_markRouteS_L2 N (fun vk c0 => k (.exit 0) [(1, .d (.int .i64 vk))] [.ar 3 0 c0]) M vk i c0
  | 0, _, _, _ => rfl
  | M + 1, vk, i, c0 => (laws_markRouteS_B2_eq N (loopG 38 1 [] (crun tt (laws_markRouteS_C2 N) 38 (lpF Try.f48 0)) [0, 1, 5] (lexit 38 1 laws_markRouteS_L2_x k) M) vk i c0 k).trans (congrArg (fun rec => laws_markRouteS_B2 N rec vk i c0 (fun vk c0 => k (.exit 0) [(1, .d (.int .i64 vk))] [.ar 3 0 c0])) (funext fun vk => (funext fun i => (funext fun c0 => laws_markRouteS_L2_eq N k M vk i c0))))

def laws_markRouteS_L2_s (N : Nat) : LSum := fun R l m k => gcf 38 1 [] [0, 1, 5] l m fun l2 m2 => match l2, m2 with
  | [(z1, .sl z2), (z3, .d (.int .i64 vk)), (z4, .d (.int .i64 i))], [.ar z5 z6 c0] => chk (Nat.beq z1 0 && Nat.beq z2 0 && Nat.beq z3 1 && Nat.beq z4 5 && Nat.beq z5 3 && Nat.beq z6 0) (laws_markRouteS_L2 N (fun vk c0 => k (.exit 0) [(1, .d (.int .i64 vk))] [.ar 3 0 c0]) N vk i c0)
  | _, _ => none

theorem laws_markRouteS_L2_ok (N : Nat) : LOK Try.prog 38 1 (lpF Try.f48 0) (laws_markRouteS_L2_s N) := by
  refine (lsum_ok tt_ok mixed (laws_markRouteS_C2_Γ N) (laws_markRouteS_C2_Λ N) [] [0, 1, 5] laws_markRouteS_L2_x N).of ?_
  intro R l m k r h
  unfold laws_markRouteS_L2_s at h
  refine gcf_mono ?_ h
  intro l2 m2 h
  split at h
  · obtain ⟨hc, h⟩ := chk_eq h
    simp only [Bool.and_eq_true, Nat.beq_eq_true_eq] at hc
    obtain ⟨⟨⟨⟨⟨rfl, rfl⟩, rfl⟩, rfl⟩, rfl⟩, rfl⟩ := hc
    rw [laws_markRouteS_L2_eq]
    exact h
  · cases h

def laws_markRouteS_c {R : Type} (N : Nat) (v : Int) (xs : List (List PV)) (k : AV → List AB → Option R) : Option R :=
  laws_markRouteS_L2 N (fun vk c0 =>
   k (.d (.int .i64 vk)) [.ar 3 0 c0]) N v 0 xs

def laws_markRouteS_C (N : Nat) : CC := ⟨Γ_laws_markText, (Λc 2 (laws_markRouteS_L2_s N) Λ0), Δ0, Μ0⟩

theorem laws_markRouteS_C_Γ (N : Nat) : ∀ f s, (laws_markRouteS_C N).Γ f = some s → SmrOK Try.prog f s := Γ_laws_markText_ok

theorem laws_markRouteS_C_Λ (N : Nat) : ∀ c, Try.f48.body = some c → ∀ b ∈ loopsIn c, ∀ s, (laws_markRouteS_C N).Λ (lid b) = some s → LOK Try.prog Try.f48.ntmps 1 b s :=
  LOKs_ofF (bs := [(lpF Try.f48 0)]) (by kernel_rfl) (LOKs_c (l := laws_markRouteS_L2_s N) (by kernel_rfl) (laws_markRouteS_L2_ok N) LOKs_n)

theorem laws_markRouteS_run {R : Type} (N : Nat) (v : Int) (xs : List (List PV)) (k : AV → List AB → Option R) :
    cfunN tt (laws_markRouteS_C N) Try.f48 1 [.sl 0, .d (.int .i64 v)] [.ar 3 0 xs] k = laws_markRouteS_c N v xs k := by kernel_rfl

theorem markRouteS_loop {R : Type} (N : Nat) (k1 : Int → List (List PV) → Option R) : ∀ (M : Nat) (d r : List Route) (v : Int), d.length + r.length ≤ 1048576 → r.length < M → 0 ≤ v → v + 3 * r.length ≤ 16777216 →
    laws_markRouteS_L2 N k1 M v d.length ((d ++ r).map Route.pv) = k1 (v + 3 * (r.length : Int)) ((d ++ markRs r v).map Route.pv)
  | 0, d, r, v, h1, h2, h3, h4 => by omega
  | M + 1, d, [], v, h1, h2, h3, h4 => by
    simp only [laws_markRouteS_L2, laws_markRouteS_B2, List.length_map, List.append_nil]
    rw [lt_f (by omega), br_f]
    simp [markRs]
  | M + 1, d, x :: r, v, h1, h2, h3, h4 => by
    simp only [List.length_cons] at h1 h2 h4
    have hl : ∀ y : Route, decide ((d.length : Int) < (((d ++ y :: r).map Route.pv).length : Int)) = true := fun y => by simp; omega
    have h0 : decide ((0 : Int) ≤ (d.length : Int)) = true := by simp
    have w1 : IntKind.i64.wrap (v + 1) = v + 1 := wrap_id (by omega) (by omega)
    have w2 : IntKind.i64.wrap (v + 1 + 1) = v + 2 := by rw [wrap_id (by omega) (by omega)]; omega
    have w3 : IntKind.i64.wrap (v + 2 + 1) = v + 3 := by rw [wrap_id (by omega) (by omega)]; omega
    have b1 : (decide (0 ≤ v + 1) && decide (v + 1 ≤ 16777216)) = true := by simp; omega
    have b2 : (decide (0 ≤ v + 2) && decide (v + 2 ≤ 16777216)) = true := by simp; omega
    simp only [laws_markRouteS_L2, laws_markRouteS_B2, bnd]
    rw [hl, br_t, h0]
    simp only [Bool.and_self, chk_t, lenInt, w1, w2, w3, b1, b2]
    rw [get_at, Route.pv_len, pset0]
    simp only [hl, chk_t, Bool.and_self, Nat.reduceLeDiff, decide_true]
    rw [get_at, Route.pv_len, pset1]
    simp only [hl, chk_t, Bool.and_self, Nat.reduceLeDiff, decide_true]
    rw [get_at, Route.pv_len, pset2]
    simp only [chk_t, Nat.le_refl, decide_true]
    have := markRouteS_loop N k1 M (d ++ [⟨v, markT (v + 1), markT (v + 2)⟩]) r (v + 3) (by simp; omega) (by omega) (by omega) (by omega)
    simp only [List.append_assoc, List.cons_append, List.nil_append, List.length_append, List.length_cons, List.length_nil, Nat.zero_add] at this
    rw [wrap_s (by omega), this]
    simp only [markRs, List.length_cons]
    congr 1
    omega
theorem laws_markRouteS_ceq {R : Type} (N : Nat) (v : Int) (rs : List Route) (k : AV → List AB → Option R) (hN : rs.length + 1 ≤ N) (hp1 : (decide (rs.length ≤ 1048576)) = true) (hp2 : (decide (0 ≤ v) && decide (v ≤ 100)) = true) :
    laws_markRouteS_c N v (rs.map Route.pv) k = k (.d (.int .i64 (v + 3 * (rs.length : Int)))) [.ar 3 0 ((markRs rs v).map Route.pv)] := by
  simp only [decide_eq_true_eq, Bool.and_eq_true] at hp1 hp2
  exact markRouteS_loop N _ N [] rs v (by simpa using hp1) (by omega) (by omega) (by omega)
def laws_markRouteS_sm : Smr := ⟨[true, false], fun R args mem k => match nilAVs args, mem with
  | [.sl z1, .d (.int .i64 v)], [.ar z2 z3 xs] => chk (Nat.beq z1 0 && Nat.beq z2 3 && Nat.beq z3 0) (bi (unRoutes xs) fun rs => chk (decide (rs.length ≤ 1048576)) (chk (decide (0 ≤ v) && decide (v ≤ 100)) (k (.d (.int .i64 (v + 3 * (rs.length : Int)))) [.ar 3 0 ((markRs rs v).map Route.pv)])))
  | _, _ => none⟩

theorem laws_markRouteS_ok : SmrOK Try.prog 48 laws_markRouteS_sm := by
  intro R args mem k r h
  simp only [laws_markRouteS_sm] at h
  generalize hA : nilAVs args = args' at h
  split at h
  · rename_i z1 v z2 z3 xs
    obtain ⟨hc, h1⟩ := chk_eq h
    simp only [Bool.and_eq_true, Nat.beq_eq_true_eq] at hc
    obtain ⟨⟨rfl, rfl⟩, rfl⟩ := hc
    obtain ⟨rs, hd0, h2⟩ := bi_eq h1
    have hd0 := unRoutes_eq hd0
    subst hd0
    obtain ⟨hp1, h3⟩ := chk_eq h2
    obtain ⟨hp2, h4⟩ := chk_eq h3
    replace h := h4
    refine ⟨_, _, Spec.nl hA (spec_of_run tt_ok mixed (laws_markRouteS_C_Γ (rs.length + 1)) Try.func48 (by kernel_rfl) (mem := [.ar 3 0 (rs.map Route.pv)]) (Nat.le_of_ble_eq_true (by kernel_rfl)) (laws_markRouteS_C_Λ (rs.length + 1)) ((laws_markRouteS_run (rs.length + 1) v (rs.map Route.pv) _).trans ((laws_markRouteS_ceq (rs.length + 1) v rs _ (Nat.le_refl _) hp1 hp2).trans ?_))), h⟩
    rfl
  · cases h

def Γ_laws_markRouteS : FuncId → Option Smr := Γc 48 laws_markRouteS_sm Γ_laws_markText
theorem Γ_laws_markRouteS_ok : ∀ f s, Γ_laws_markRouteS f = some s → SmrOK Try.prog f s := Γc_ok laws_markRouteS_ok Γ_laws_markText_ok


/- laws.markMaster -/

def laws_markMaster_c {R : Type} (N : Nat) (sh : Int) (pk : Int) (pf : Int) (ps : Int) (pb : ByteArray) (pr : Int) (pt : Int) (pe : Int) (tn : Int) (v : Int) (xs : List (List PV)) (k : AV → List AB → Option R) : Option R :=
  bi (unRoutes xs) fun rs1 =>
  chk (decide (rs1.length ≤ 1048576))
  (chk (decide (0 ≤ v) && decide (v ≤ 100))
   (chk (decide (xs.length = ((markRs rs1 v).map Route.pv).length))
    (k (.d (.int .i64 (v + 3 * (rs1.length : Int)))) [.ar 3 0 ((markRs rs1 v).map Route.pv)])))

def laws_markMaster_C (N : Nat) : CC := ⟨Γ_laws_markRouteS, Λ0, Δ0, Μ0⟩

theorem laws_markMaster_C_Γ (N : Nat) : ∀ f s, (laws_markMaster_C N).Γ f = some s → SmrOK Try.prog f s := Γ_laws_markRouteS_ok

theorem laws_markMaster_C_Λ (N : Nat) : ∀ c, Try.f13.body = some c → ∀ b ∈ loopsIn c, ∀ s, (laws_markMaster_C N).Λ (lid b) = some s → LOK Try.prog Try.f13.ntmps 1 b s :=
  LOKs_ofF (bs := []) (by kernel_rfl) LOKs_n

theorem laws_markMaster_run {R : Type} (N : Nat) (sh : Int) (pk : Int) (pf : Int) (ps : Int) (pb : ByteArray) (pr : Int) (pt : Int) (pe : Int) (tn : Int) (v : Int) (xs : List (List PV)) (k : AV → List AB → Option R) :
    cfunN tt (laws_markMaster_C N) Try.f13 1 [.agg [.sl 0, .d (.int .i64 sh), .d (.int .i64 pk), .d (.int .i64 pf), .d (.int .i64 ps), .d (.str pb), .d (.int .i64 pr), .d (.int .i64 pt), .d (.int .i64 pe), .d (.int .i64 tn)], .d (.int .i64 v)] [.ar 3 0 xs] k = laws_markMaster_c N sh pk pf ps pb pr pt pe tn v xs k := by kernel_rfl

theorem laws_markMaster_ceq {R : Type} (N : Nat) (sh : Int) (pk : Int) (pf : Int) (ps : Int) (pb : ByteArray) (pr : Int) (pt : Int) (pe : Int) (tn : Int) (v : Int) (rs : List Route) (k : AV → List AB → Option R) (hp1 : (decide (rs.length ≤ 1048576)) = true) (hp2 : (decide (0 ≤ v) && decide (v ≤ 100)) = true) :
    laws_markMaster_c N sh pk pf ps pb pr pt pe tn v (rs.map Route.pv) k = k (.d (.int .i64 (v + 3 * (rs.length : Int)))) [.ar 3 0 ((markRs rs v).map Route.pv)] := by
  simp only [laws_markMaster_c, Route.pv, Iv.pv, dInt_c, dStr_c, List.length_cons, List.length_nil, Nat.zero_add, Nat.reduceAdd, chk_beq, chk_t, br_t, br_f, bi_s, unRoutes_map, unIvs_map, hp1, hp2, List.length_map, markRs_len, decide_true]
def laws_markMaster_sm : Smr := ⟨[true, false], fun R args mem k => match nilAVs args, mem with
  | [.agg [.sl z1, .d (.int .i64 sh), .d (.int .i64 pk), .d (.int .i64 pf), .d (.int .i64 ps), .d (.str pb), .d (.int .i64 pr), .d (.int .i64 pt), .d (.int .i64 pe), .d (.int .i64 tn)], .d (.int .i64 v)], [.ar z2 z3 xs] => chk (Nat.beq z1 0 && Nat.beq z2 3 && Nat.beq z3 0) (bi (unRoutes xs) fun rs => chk (decide (rs.length ≤ 1048576)) (chk (decide (0 ≤ v) && decide (v ≤ 100)) (k (.d (.int .i64 (v + 3 * (rs.length : Int)))) [.ar 3 0 ((markRs rs v).map Route.pv)])))
  | _, _ => none⟩

theorem laws_markMaster_ok : SmrOK Try.prog 13 laws_markMaster_sm := by
  intro R args mem k r h
  simp only [laws_markMaster_sm] at h
  generalize hA : nilAVs args = args' at h
  split at h
  · rename_i z1 sh pk pf ps pb pr pt pe tn v z2 z3 xs
    obtain ⟨hc, h1⟩ := chk_eq h
    simp only [Bool.and_eq_true, Nat.beq_eq_true_eq] at hc
    obtain ⟨⟨rfl, rfl⟩, rfl⟩ := hc
    obtain ⟨rs, hd0, h2⟩ := bi_eq h1
    have hd0 := unRoutes_eq hd0
    subst hd0
    obtain ⟨hp1, h3⟩ := chk_eq h2
    obtain ⟨hp2, h4⟩ := chk_eq h3
    replace h := h4
    refine ⟨_, _, Spec.nl hA (spec_of_run tt_ok mixed (laws_markMaster_C_Γ 0) Try.func13 (by kernel_rfl) (mem := [.ar 3 0 (rs.map Route.pv)]) (Nat.le_of_ble_eq_true (by kernel_rfl)) (laws_markMaster_C_Λ 0) ((laws_markMaster_run 0 sh pk pf ps pb pr pt pe tn v (rs.map Route.pv) _).trans ((laws_markMaster_ceq 0 sh pk pf ps pb pr pt pe tn v rs _ hp1 hp2).trans ?_))), h⟩
    rfl
  · cases h

def Γ_laws_markMaster : FuncId → Option Smr := Γc 13 laws_markMaster_sm Γ_laws_markRouteS
theorem Γ_laws_markMaster_ok : ∀ f s, Γ_laws_markMaster f = some s → SmrOK Try.prog f s := Γc_ok laws_markMaster_ok Γ_laws_markRouteS_ok


/- laws.heldRouteS -/

def laws_heldRouteS_B2 {R : Type} (N : Nat) (rec : List (List PV) → Int → Int → Option R) (a : List (List PV)) (vk : Int) (i : Int) (k1 : Int → Option R) (k2 : Int → Option R) : Option R :=
  br (decide (i < (a.length : Int)))
  (getC a i fun x1 =>
   dInt .i64 x1 fun n3 r2 => dStr r2 fun s5 r4 => dStr r4 fun s7 r6 =>
   chk (Nat.beq x1.length 3)
   (br (n3 != vk)
    (k1 (-1))
    (getC a i fun x8 =>
     dInt .i64 x8 fun n10 r9 => dStr r9 fun s12 r11 => dStr r11 fun s14 r13 =>
     chk (Nat.beq x8.length 3)
     (chk (decide (0 ≤ (IntKind.i64.wrap (vk + 1))) && decide ((IntKind.i64.wrap (vk + 1)) ≤ 16777216))
      (br (!(decide (s12 = (markT (IntKind.i64.wrap (vk + 1))))))
       (k1 (-1))
       (getC a i fun x15 =>
        dInt .i64 x15 fun n17 r16 => dStr r16 fun s19 r18 => dStr r18 fun s21 r20 =>
        chk (Nat.beq x15.length 3)
        (chk (decide (0 ≤ (IntKind.i64.wrap ((IntKind.i64.wrap (vk + 1)) + 1))) && decide ((IntKind.i64.wrap ((IntKind.i64.wrap (vk + 1)) + 1)) ≤ 16777216))
         (br (!(decide (s21 = (markT (IntKind.i64.wrap ((IntKind.i64.wrap (vk + 1)) + 1))))))
          (k1 (-1))
          (bnd (IntKind.i64.wrap ((IntKind.i64.wrap ((IntKind.i64.wrap (vk + 1)) + 1)) + 1)) fun i22 =>
           rec a i22 (IntKind.i64.wrap (i + 1)))))))))))
  (k2 vk)

def laws_heldRouteS_L2 {R : Type} (N : Nat) (k1 : Int → Option R) (k2 : Int → Option R) : Nat → List (List PV) → Int → Int → Option R
  | 0, _, _, _ => none
  | M + 1, a, vk, i => laws_heldRouteS_B2 N (laws_heldRouteS_L2 N k1 k2 M) a vk i k1 k2

def laws_heldRouteS_L2_x (e : Ex) : List Nat := (fun e => match e with
    | .normal => []
    | .exit id => match Nat.beq id 0 with | true => [1] | false => []
    | .ret => [4]) e

def laws_heldRouteS_dr7 : List DI := [⟨0, 0, [22, 27, 28], [], 1⟩, ⟨1, 0, [21, 27, 28], [], 1⟩, ⟨2, 3, [27, 28], [], 1⟩, ⟨3, 7, [27, 28], [], 1⟩, ⟨4, 15, [27, 28], [], 1⟩, ⟨5, 31, [27, 28], [], 1⟩, ⟨6, 0, [21, 22, 23, 24, 25, 26], [], 1⟩, ⟨7, 64, [21, 22, 23, 24, 25, 26], [], 0⟩, ⟨8, 255, [], [], 1⟩]

def laws_heldRouteS_dr10 : List DI := [⟨0, 0, [33, 38, 39], [], 1⟩, ⟨1, 0, [32, 38, 39], [], 1⟩, ⟨2, 3, [38, 39], [], 1⟩, ⟨3, 7, [38, 39], [], 1⟩, ⟨4, 15, [38, 39], [], 1⟩, ⟨5, 31, [38, 39], [], 1⟩, ⟨6, 0, [32, 33, 34, 35, 36, 37], [], 1⟩, ⟨7, 64, [32, 33, 34, 35, 36, 37], [], 0⟩, ⟨8, 255, [], [], 1⟩]

def laws_heldRouteS_C2 (N : Nat) : CC := ⟨Γ_laws_markMaster, Λ0, (Δc 10 laws_heldRouteS_dr10 (Δc 7 laws_heldRouteS_dr7 Δ0)), Μ0⟩

theorem laws_heldRouteS_C2_Γ (N : Nat) : ∀ f s, (laws_heldRouteS_C2 N).Γ f = some s → SmrOK Try.prog f s := Γ_laws_markMaster_ok

theorem laws_heldRouteS_C2_Λ (N : Nat) : ∀ b ∈ loopsIn (lpF Try.f49 0), ∀ s, (laws_heldRouteS_C2 N).Λ (lid b) = some s → LOK Try.prog 44 0 b s :=
  LOKs_of (bs := []) (by kernel_rfl) LOKs_n

theorem laws_heldRouteS_B2_eq {R : Type} (N : Nat) (rec : TL → List AB → Option R) (a : List (List PV)) (vk : Int) (i : Int) (k : Ex → TL → List AB → Option R) :
    (crun tt (laws_heldRouteS_C2 N) 44 (lpF Try.f49 0)) [(0, .d (.ls a)), (1, .d (.int .i64 vk)), (5, .d (.int .i64 i))] [] (lnext 44 0 [] [0, 1, 5] rec (lexit 44 0 laws_heldRouteS_L2_x k)) =
    laws_heldRouteS_B2 N (fun a vk i => rec [(0, .d (.ls a)), (1, .d (.int .i64 vk)), (5, .d (.int .i64 i))] []) a vk i (fun v => k (.ret) [(4, .d (.int .i64 v))] []) (fun vk => k (.exit 0) [(1, .d (.int .i64 vk))] []) := by kernel_rfl

theorem laws_heldRouteS_L2_eq {R : Type} (N : Nat) (k : Ex → TL → List AB → Option R) : ∀ (M : Nat) (a : List (List PV)) (vk : Int) (i : Int), loopG 44 0 [] (crun tt (laws_heldRouteS_C2 N) 44 (lpF Try.f49 0)) [0, 1, 5] (lexit 44 0 laws_heldRouteS_L2_x k) M [(0, .d (.ls a)), (1, .d (.int .i64 vk)), (5, .d (.int .i64 i))] [] =
    laws_heldRouteS_L2 N (fun v => k (.ret) [(4, .d (.int .i64 v))] []) (fun vk => k (.exit 0) [(1, .d (.int .i64 vk))] []) M a vk i
  | 0, _, _, _ => rfl
  | M + 1, a, vk, i => (laws_heldRouteS_B2_eq N (loopG 44 0 [] (crun tt (laws_heldRouteS_C2 N) 44 (lpF Try.f49 0)) [0, 1, 5] (lexit 44 0 laws_heldRouteS_L2_x k) M) a vk i k).trans (congrArg (fun rec => laws_heldRouteS_B2 N rec a vk i (fun v => k (.ret) [(4, .d (.int .i64 v))] []) (fun vk => k (.exit 0) [(1, .d (.int .i64 vk))] [])) (funext fun a => (funext fun vk => (funext fun i => laws_heldRouteS_L2_eq N k M a vk i))))

def laws_heldRouteS_L2_s (N : Nat) : LSum := fun R l m k => gcf 44 0 [] [0, 1, 5] l m fun l2 m2 => match l2, m2 with
  | [(z1, .d (.ls a)), (z2, .d (.int .i64 vk)), (z3, .d (.int .i64 i))], [] => chk (Nat.beq z1 0 && Nat.beq z2 1 && Nat.beq z3 5) (laws_heldRouteS_L2 N (fun v => k (.ret) [(4, .d (.int .i64 v))] []) (fun vk => k (.exit 0) [(1, .d (.int .i64 vk))] []) N a vk i)
  | _, _ => none

theorem laws_heldRouteS_L2_ok (N : Nat) : LOK Try.prog 44 0 (lpF Try.f49 0) (laws_heldRouteS_L2_s N) := by
  refine (lsum_ok tt_ok mixed (laws_heldRouteS_C2_Γ N) (laws_heldRouteS_C2_Λ N) [] [0, 1, 5] laws_heldRouteS_L2_x N).of ?_
  intro R l m k r h
  unfold laws_heldRouteS_L2_s at h
  refine gcf_mono ?_ h
  intro l2 m2 h
  split at h
  · obtain ⟨hc, h⟩ := chk_eq h
    simp only [Bool.and_eq_true, Nat.beq_eq_true_eq] at hc
    obtain ⟨⟨rfl, rfl⟩, rfl⟩ := hc
    rw [laws_heldRouteS_L2_eq]
    exact h
  · cases h

def laws_heldRouteS_c {R : Type} (N : Nat) (xs : List (List PV)) (v : Int) (k : AV → List AB → Option R) : Option R :=
  laws_heldRouteS_L2 N (fun v =>
   k (.d (.int .i64 v)) [])
  (fun vk =>
   k (.d (.int .i64 vk)) []) N xs v 0

def laws_heldRouteS_C (N : Nat) : CC := ⟨Γ_laws_markMaster, (Λc 2 (laws_heldRouteS_L2_s N) Λ0), (Δc 10 laws_heldRouteS_dr10 (Δc 7 laws_heldRouteS_dr7 Δ0)), Μ0⟩

theorem laws_heldRouteS_C_Γ (N : Nat) : ∀ f s, (laws_heldRouteS_C N).Γ f = some s → SmrOK Try.prog f s := Γ_laws_markMaster_ok

theorem laws_heldRouteS_C_Λ (N : Nat) : ∀ c, Try.f49.body = some c → ∀ b ∈ loopsIn c, ∀ s, (laws_heldRouteS_C N).Λ (lid b) = some s → LOK Try.prog Try.f49.ntmps 0 b s :=
  LOKs_ofF (bs := [(lpF Try.f49 0)]) (by kernel_rfl) (LOKs_c (l := laws_heldRouteS_L2_s N) (by kernel_rfl) (laws_heldRouteS_L2_ok N) LOKs_n)

theorem laws_heldRouteS_run {R : Type} (N : Nat) (xs : List (List PV)) (v : Int) (k : AV → List AB → Option R) :
    cfunN tt (laws_heldRouteS_C N) Try.f49 0 [.d (.ls xs), .d (.int .i64 v)] [] k = laws_heldRouteS_c N xs v k := by kernel_rfl

theorem heldRouteS_loop {R : Type} (N : Nat) (rs : List Route) (hl : rs.length ≤ 1048576) (k1 : Int → Option R) : ∀ (M i : Nat) (v : Int), i ≤ rs.length → rs.length < i + M → 0 ≤ v → v + 3 * (rs.length - i : Nat) ≤ 16777216 →
    laws_heldRouteS_L2 N k1 k1 M (rs.map Route.pv) v (i : Int) = k1 (heldRs (rs.drop i) v)
  | 0, i, v, h1, h2, h3, h4 => by omega
  | M + 1, i, v, h1, h2, h3, h4 => by
    simp only [laws_heldRouteS_L2, laws_heldRouteS_B2, bnd, List.length_map]
    by_cases h : i < rs.length
    · have w1 : IntKind.i64.wrap (v + 1) = v + 1 := wrap_id (by omega) (by omega)
      have w2 : IntKind.i64.wrap (v + 1 + 1) = v + 2 := by rw [wrap_id (by omega) (by omega)]; omega
      have w3 : IntKind.i64.wrap (v + 2 + 1) = v + 3 := by rw [wrap_id (by omega) (by omega)]; omega
      have b1 : (decide (0 ≤ v + 1) && decide (v + 1 ≤ 16777216)) = true := by simp; omega
      have b2 : (decide (0 ≤ v + 2) && decide (v + 2 ≤ 16777216)) = true := by simp; omega
      rw [lt_t h, br_t, getC_map h]
      simp only [Route.pv, Iv.pv, dInt_c, dStr_c, List.length_cons, List.length_nil, Nat.zero_add, Nat.reduceAdd, chk_beq, chk_t, br_t, br_f, bi_s, unRoutes_map, unIvs_map, w1, w2, w3, b1, b2]
      rw [getC_map h]
      simp only [Route.pv, Iv.pv, dInt_c, dStr_c, List.length_cons, List.length_nil, Nat.zero_add, Nat.reduceAdd, chk_beq, chk_t, br_t, br_f, bi_s, unRoutes_map, unIvs_map]
      rw [getC_map h]
      simp only [Route.pv, Iv.pv, dInt_c, dStr_c, List.length_cons, List.length_nil, Nat.zero_add, Nat.reduceAdd, chk_beq, chk_t, br_t, br_f, bi_s, unRoutes_map, unIvs_map]
      rw [List.drop_eq_getElem_cons h, wrap_s (by omega), heldRouteS_loop N rs hl k1 M (i + 1) (v + 3) (by omega) (by omega) (by omega) (by omega)]
      simp only [heldRs]
      have e : (rs[i] = markR v) = (rs[i].number = v ∧ rs[i].low = markT (v + 1) ∧ rs[i].high = markT (v + 2)) := by
        apply propext
        constructor
        · intro h; rw [h]; exact ⟨rfl, rfl, rfl⟩
        · rintro ⟨a1, a2, a3⟩
          cases hr : rs[i] with
          | mk n a b => rw [hr] at a1 a2 a3; simp only at a1 a2 a3; rw [a1, a2, a3]; rfl
      by_cases g1 : rs[i].number = v
      · by_cases g2 : rs[i].low = markT (v + 1)
        · by_cases g3 : rs[i].high = markT (v + 2)
          · rw [if_pos (by rw [e]; exact ⟨g1, g2, g3⟩), decide_eq_true g2, decide_eq_true g3, g1]; simp [br]
          · rw [if_neg (by rw [e]; exact fun h => g3 h.2.2), decide_eq_true g2, decide_eq_false g3, g1]; simp [br]
        · rw [if_neg (by rw [e]; exact fun h => g2 h.2.1), decide_eq_false g2, g1]; simp [br]
      · rw [if_neg (by rw [e]; exact fun h => g1 h.1), show (rs[i].number != v) = true by simpa using g1]; rfl
    · rw [lt_f h, br_f, List.drop_of_length_le (by omega)]; rfl
theorem laws_heldRouteS_ceq {R : Type} (N : Nat) (v : Int) (rs : List Route) (k : AV → List AB → Option R) (hN : rs.length + 1 ≤ N) (hp1 : (decide (rs.length ≤ 1048576)) = true) (hp2 : (decide (0 ≤ v) && decide (v ≤ 100)) = true) :
    laws_heldRouteS_c N (rs.map Route.pv) v k = k (.d (.int .i64 (heldRs rs v))) [] := by
  simp only [decide_eq_true_eq, Bool.and_eq_true] at hp1 hp2
  exact heldRouteS_loop N rs hp1 _ N 0 v (by omega) (by omega) (by omega) (by omega)
def laws_heldRouteS_sm : Smr := ⟨[false, false], fun R args mem k => match nilAVs args, mem with
  | [.d (.ls xs), .d (.int .i64 v)], [] => bi (unRoutes xs) fun rs => chk (decide (rs.length ≤ 1048576)) (chk (decide (0 ≤ v) && decide (v ≤ 100)) (k (.d (.int .i64 (heldRs rs v))) []))
  | _, _ => none⟩

theorem laws_heldRouteS_ok : SmrOK Try.prog 49 laws_heldRouteS_sm := by
  intro R args mem k r h
  simp only [laws_heldRouteS_sm] at h
  generalize hA : nilAVs args = args' at h
  split at h
  · rename_i xs v
    obtain ⟨rs, hd0, h1⟩ := bi_eq h
    have hd0 := unRoutes_eq hd0
    subst hd0
    obtain ⟨hp1, h2⟩ := chk_eq h1
    obtain ⟨hp2, h3⟩ := chk_eq h2
    replace h := h3
    refine ⟨_, _, Spec.nl hA (spec_of_run tt_ok mixed (laws_heldRouteS_C_Γ (rs.length + 1)) Try.func49 (by kernel_rfl) (mem := []) (Nat.le_of_ble_eq_true (by kernel_rfl)) (laws_heldRouteS_C_Λ (rs.length + 1)) ((laws_heldRouteS_run (rs.length + 1) (rs.map Route.pv) v _).trans ((laws_heldRouteS_ceq (rs.length + 1) v rs _ (Nat.le_refl _) hp1 hp2).trans ?_))), h⟩
    rfl
  · cases h

def Γ_laws_heldRouteS : FuncId → Option Smr := Γc 49 laws_heldRouteS_sm Γ_laws_markMaster
theorem Γ_laws_heldRouteS_ok : ∀ f s, Γ_laws_heldRouteS f = some s → SmrOK Try.prog f s := Γc_ok laws_heldRouteS_ok Γ_laws_markMaster_ok


/- laws.heldMaster -/

def laws_heldMaster_c {R : Type} (N : Nat) (xs : List (List PV)) (sh : Int) (pk : Int) (pf : Int) (ps : Int) (pb : ByteArray) (pr : Int) (pt : Int) (pe : Int) (tn : Int) (v : Int) (k : AV → List AB → Option R) : Option R :=
  bi (unRoutes xs) fun rs1 =>
  chk (decide (rs1.length ≤ 1048576))
  (chk (decide (0 ≤ v) && decide (v ≤ 100))
   (br (decide ((heldRs rs1 v) < 0))
    (k (.d (.int .i64 (-1))) [])
    (k (.d (.int .i64 (heldRs rs1 v))) [])))

def laws_heldMaster_C (N : Nat) : CC := ⟨Γ_laws_heldRouteS, Λ0, Δ0, Μ0⟩

theorem laws_heldMaster_C_Γ (N : Nat) : ∀ f s, (laws_heldMaster_C N).Γ f = some s → SmrOK Try.prog f s := Γ_laws_heldRouteS_ok

theorem laws_heldMaster_C_Λ (N : Nat) : ∀ c, Try.f14.body = some c → ∀ b ∈ loopsIn c, ∀ s, (laws_heldMaster_C N).Λ (lid b) = some s → LOK Try.prog Try.f14.ntmps 0 b s :=
  LOKs_ofF (bs := []) (by kernel_rfl) LOKs_n

theorem laws_heldMaster_run {R : Type} (N : Nat) (xs : List (List PV)) (sh : Int) (pk : Int) (pf : Int) (ps : Int) (pb : ByteArray) (pr : Int) (pt : Int) (pe : Int) (tn : Int) (v : Int) (k : AV → List AB → Option R) :
    cfunN tt (laws_heldMaster_C N) Try.f14 0 [.agg [.d (.ls xs), .d (.int .i64 sh), .d (.int .i64 pk), .d (.int .i64 pf), .d (.int .i64 ps), .d (.str pb), .d (.int .i64 pr), .d (.int .i64 pt), .d (.int .i64 pe), .d (.int .i64 tn)], .d (.int .i64 v)] [] k = laws_heldMaster_c N xs sh pk pf ps pb pr pt pe tn v k := by kernel_rfl

theorem laws_heldMaster_ceq {R : Type} (N : Nat) (sh : Int) (pk : Int) (pf : Int) (ps : Int) (pb : ByteArray) (pr : Int) (pt : Int) (pe : Int) (tn : Int) (v : Int) (rs : List Route) (k : AV → List AB → Option R) (hp1 : (decide (rs.length ≤ 1048576)) = true) (hp2 : (decide (0 ≤ v) && decide (v ≤ 100)) = true) :
    laws_heldMaster_c N (rs.map Route.pv) sh pk pf ps pb pr pt pe tn v k = k (.d (.int .i64 (heldRs rs v))) [] := by
  simp only [laws_heldMaster_c, Route.pv, Iv.pv, dInt_c, dStr_c, List.length_cons, List.length_nil, Nat.zero_add, Nat.reduceAdd, chk_beq, chk_t, br_t, br_f, bi_s, unRoutes_map, unIvs_map, hp1, hp2]
  by_cases h : heldRs rs v < 0
  · have : ∀ (l : List Route) (v : Int), 0 ≤ v → heldRs l v < 0 → heldRs l v = -1 := by
      intro l
      induction l with
      | nil => intro v h1 h2; simp only [heldRs] at h2; omega
      | cons r l ih =>
        intro v h1 h2
        simp only [heldRs] at h2 ⊢
        split
        · rename_i hc; rw [if_pos hc] at h2; exact ih _ (by omega) h2
        · rfl
    simp only [decide_eq_true_eq, Bool.and_eq_true] at hp2
    rw [decide_eq_true h, br_t, this rs v hp2.1 h]
  · rw [decide_eq_false h, br_f]
def laws_heldMaster_sm : Smr := ⟨[false, false], fun R args mem k => match nilAVs args, mem with
  | [.agg [.d (.ls xs), .d (.int .i64 sh), .d (.int .i64 pk), .d (.int .i64 pf), .d (.int .i64 ps), .d (.str pb), .d (.int .i64 pr), .d (.int .i64 pt), .d (.int .i64 pe), .d (.int .i64 tn)], .d (.int .i64 v)], [] => bi (unRoutes xs) fun rs => chk (decide (rs.length ≤ 1048576)) (chk (decide (0 ≤ v) && decide (v ≤ 100)) (k (.d (.int .i64 (heldRs rs v))) []))
  | _, _ => none⟩

theorem laws_heldMaster_ok : SmrOK Try.prog 14 laws_heldMaster_sm := by
  intro R args mem k r h
  simp only [laws_heldMaster_sm] at h
  generalize hA : nilAVs args = args' at h
  split at h
  · rename_i xs sh pk pf ps pb pr pt pe tn v
    obtain ⟨rs, hd0, h1⟩ := bi_eq h
    have hd0 := unRoutes_eq hd0
    subst hd0
    obtain ⟨hp1, h2⟩ := chk_eq h1
    obtain ⟨hp2, h3⟩ := chk_eq h2
    replace h := h3
    refine ⟨_, _, Spec.nl hA (spec_of_run tt_ok mixed (laws_heldMaster_C_Γ 0) Try.func14 (by kernel_rfl) (mem := []) (Nat.le_of_ble_eq_true (by kernel_rfl)) (laws_heldMaster_C_Λ 0) ((laws_heldMaster_run 0 (rs.map Route.pv) sh pk pf ps pb pr pt pe tn v _).trans ((laws_heldMaster_ceq 0 sh pk pf ps pb pr pt pe tn v rs _ hp1 hp2).trans ?_))), h⟩
    rfl
  · cases h

def Γ_laws_heldMaster : FuncId → Option Smr := Γc 14 laws_heldMaster_sm Γ_laws_heldRouteS
theorem Γ_laws_heldMaster_ok : ∀ f s, Γ_laws_heldMaster f = some s → SmrOK Try.prog f s := Γc_ok laws_heldMaster_ok Γ_laws_heldRouteS_ok


theorem applyDec_len (m : Master) (d : Decision) : (applyDec m d).1.routes.length ≤ 9 := by
  unfold applyDec
  split
  · rename_i hm
    have M := (mok hm).len
    split
    · simp only; omega
    · rename_i c hc
      split
      · rename_i hcm
        have := (mok hcm).len
        simp only; omega
      · simp only; omega
  · simp [zMaster]

/- laws.FnExactApplyDecision -/

def laws_FnExactApplyDecision_c {R : Type} (N : Nat) (xs : List (List PV)) (sh : Int) (pk : Int) (pf : Int) (ps : Int) (pb : ByteArray) (pr : Int) (pt : Int) (pe : Int) (tn : Int) (dk : Int) (qk : Int) (qf : Int) (qs : Int) (qb : ByteArray) (qr : Int) (qt : Int) (qe : Int) (k : AV → List AB → Option R) : Option R :=
  bi (unRoutes xs) fun rs1 =>
  chk (decide (0 ≤ (1048576 : Int)) && decide ((1048576 : Int) ≤ 1048576))
  (chk (decide (rs1.length ≤ 140737488355328))
   (chk (rs1.all (fun r => decide (r.low.size ≤ 140737488355328) && decide (r.high.size ≤ 140737488355328)))
    (chk (decide (pb.size ≤ 140737488355328))
     (br (decide ((szRes (1048576 : Int) (rs1.length + costs rs1 + pb.size)) < 0))
      (k (.d (.bool true)) [])
      (chk (decide (0 ≤ (szRes (1048576 : Int) (rs1.length + costs rs1 + pb.size))) && decide ((szRes (1048576 : Int) (rs1.length + costs rs1 + pb.size)) ≤ 1048576))
       (chk (decide (qb.size ≤ 140737488355328))
        (br (decide ((szRes (szRes (1048576 : Int) (rs1.length + costs rs1 + pb.size)) qb.size) < 0))
         (k (.d (.bool true)) [])
         (bi (unRoutes xs) fun rs2 =>
          chk (decide (rs2.length ≤ 1048576))
          (bi (unRoutes (rs2.map Route.pv)) fun rs3 =>
           chk (decide (rs3.length ≤ 1048576))
           (bi (unRoutes xs) fun rs4 =>
            chk (decide (rs4.length ≤ 1048576))
            (bi (unRoutes (rs4.map Route.pv)) fun rs5 =>
             chk (decide (rs5.length ≤ 1048576))
             (bi (unRoutes ((applyDec ⟨rs5, sh, ⟨pk, pf, ps, pb, pr, pt, pe⟩, tn⟩ ⟨dk, ⟨qk, qf, qs, qb, qr, qt, qe⟩⟩).1.routes.map Route.pv)) fun rs6 =>
              bi (unRoutes ((applyDec ⟨rs3, sh, ⟨pk, pf, ps, pb, pr, pt, pe⟩, tn⟩ ⟨dk, ⟨qk, qf, qs, qb, qr, qt, qe⟩⟩).1.routes.map Route.pv)) fun us7 =>
              chk (decide (rs6.length ≤ 1048576))
              (chk (decide (us7.length ≤ 1048576))
               (br (!(decide (Master.mk rs6 ((applyDec ⟨rs5, sh, ⟨pk, pf, ps, pb, pr, pt, pe⟩, tn⟩ ⟨dk, ⟨qk, qf, qs, qb, qr, qt, qe⟩⟩).1.shards) ⟨((applyDec ⟨rs5, sh, ⟨pk, pf, ps, pb, pr, pt, pe⟩, tn⟩ ⟨dk, ⟨qk, qf, qs, qb, qr, qt, qe⟩⟩).1.work.kind), ((applyDec ⟨rs5, sh, ⟨pk, pf, ps, pb, pr, pt, pe⟩, tn⟩ ⟨dk, ⟨qk, qf, qs, qb, qr, qt, qe⟩⟩).1.work.first), ((applyDec ⟨rs5, sh, ⟨pk, pf, ps, pb, pr, pt, pe⟩, tn⟩ ⟨dk, ⟨qk, qf, qs, qb, qr, qt, qe⟩⟩).1.work.second), ((applyDec ⟨rs5, sh, ⟨pk, pf, ps, pb, pr, pt, pe⟩, tn⟩ ⟨dk, ⟨qk, qf, qs, qb, qr, qt, qe⟩⟩).1.work.key), ((applyDec ⟨rs5, sh, ⟨pk, pf, ps, pb, pr, pt, pe⟩, tn⟩ ⟨dk, ⟨qk, qf, qs, qb, qr, qt, qe⟩⟩).1.work.src), ((applyDec ⟨rs5, sh, ⟨pk, pf, ps, pb, pr, pt, pe⟩, tn⟩ ⟨dk, ⟨qk, qf, qs, qb, qr, qt, qe⟩⟩).1.work.dst), ((applyDec ⟨rs5, sh, ⟨pk, pf, ps, pb, pr, pt, pe⟩, tn⟩ ⟨dk, ⟨qk, qf, qs, qb, qr, qt, qe⟩⟩).1.work.step)⟩ ((applyDec ⟨rs5, sh, ⟨pk, pf, ps, pb, pr, pt, pe⟩, tn⟩ ⟨dk, ⟨qk, qf, qs, qb, qr, qt, qe⟩⟩).1.turn) = Master.mk us7 ((applyDec ⟨rs3, sh, ⟨pk, pf, ps, pb, pr, pt, pe⟩, tn⟩ ⟨dk, ⟨qk, qf, qs, qb, qr, qt, qe⟩⟩).1.shards) ⟨((applyDec ⟨rs3, sh, ⟨pk, pf, ps, pb, pr, pt, pe⟩, tn⟩ ⟨dk, ⟨qk, qf, qs, qb, qr, qt, qe⟩⟩).1.work.kind), ((applyDec ⟨rs3, sh, ⟨pk, pf, ps, pb, pr, pt, pe⟩, tn⟩ ⟨dk, ⟨qk, qf, qs, qb, qr, qt, qe⟩⟩).1.work.first), ((applyDec ⟨rs3, sh, ⟨pk, pf, ps, pb, pr, pt, pe⟩, tn⟩ ⟨dk, ⟨qk, qf, qs, qb, qr, qt, qe⟩⟩).1.work.second), ((applyDec ⟨rs3, sh, ⟨pk, pf, ps, pb, pr, pt, pe⟩, tn⟩ ⟨dk, ⟨qk, qf, qs, qb, qr, qt, qe⟩⟩).1.work.key), ((applyDec ⟨rs3, sh, ⟨pk, pf, ps, pb, pr, pt, pe⟩, tn⟩ ⟨dk, ⟨qk, qf, qs, qb, qr, qt, qe⟩⟩).1.work.src), ((applyDec ⟨rs3, sh, ⟨pk, pf, ps, pb, pr, pt, pe⟩, tn⟩ ⟨dk, ⟨qk, qf, qs, qb, qr, qt, qe⟩⟩).1.work.dst), ((applyDec ⟨rs3, sh, ⟨pk, pf, ps, pb, pr, pt, pe⟩, tn⟩ ⟨dk, ⟨qk, qf, qs, qb, qr, qt, qe⟩⟩).1.work.step)⟩ ((applyDec ⟨rs3, sh, ⟨pk, pf, ps, pb, pr, pt, pe⟩, tn⟩ ⟨dk, ⟨qk, qf, qs, qb, qr, qt, qe⟩⟩).1.turn))))
                (k (.d (.bool false)) [])
                (br (!((applyDec ⟨rs5, sh, ⟨pk, pf, ps, pb, pr, pt, pe⟩, tn⟩ ⟨dk, ⟨qk, qf, qs, qb, qr, qt, qe⟩⟩).2 == (applyDec ⟨rs3, sh, ⟨pk, pf, ps, pb, pr, pt, pe⟩, tn⟩ ⟨dk, ⟨qk, qf, qs, qb, qr, qt, qe⟩⟩).2))
                 (k (.d (.bool false)) [])
                 (bi (unRoutes xs) fun rs8 =>
                  chk (decide (rs8.length ≤ 1048576))
                  (bi (unRoutes (rs4.map Route.pv)) fun rs9 =>
                   bi (unRoutes (rs8.map Route.pv)) fun us10 =>
                   chk (decide (rs9.length ≤ 1048576))
                   (chk (decide (us10.length ≤ 1048576))
                    (br (!(decide (Master.mk rs9 sh ⟨pk, pf, ps, pb, pr, pt, pe⟩ tn = Master.mk us10 sh ⟨pk, pf, ps, pb, pr, pt, pe⟩ tn)))
                     (k (.d (.bool false)) [])
                     (bi (unRoutes (rs4.map Route.pv)) fun rs11 =>
                      chk (decide (rs11.length ≤ 1048576))
                      (chk (decide (0 ≤ (1 : Int)) && decide ((1 : Int) ≤ 100))
                       (chk (decide ((rs4.map Route.pv).length = ((markRs rs11 (1 : Int)).map Route.pv).length))
                        (br (decide (((1 : Int) + 3 * (rs11.length : Int)) < 0))
                         (k (.d (.bool false)) [])
                         (bi (unRoutes ((applyDec ⟨rs5, sh, ⟨pk, pf, ps, pb, pr, pt, pe⟩, tn⟩ ⟨dk, ⟨qk, qf, qs, qb, qr, qt, qe⟩⟩).1.routes.map Route.pv)) fun rs12 =>
                          bi (unRoutes ((applyDec ⟨rs3, sh, ⟨pk, pf, ps, pb, pr, pt, pe⟩, tn⟩ ⟨dk, ⟨qk, qf, qs, qb, qr, qt, qe⟩⟩).1.routes.map Route.pv)) fun us13 =>
                          chk (decide (rs12.length ≤ 1048576))
                          (chk (decide (us13.length ≤ 1048576))
                           (br (!(decide (Master.mk rs12 ((applyDec ⟨rs5, sh, ⟨pk, pf, ps, pb, pr, pt, pe⟩, tn⟩ ⟨dk, ⟨qk, qf, qs, qb, qr, qt, qe⟩⟩).1.shards) ⟨((applyDec ⟨rs5, sh, ⟨pk, pf, ps, pb, pr, pt, pe⟩, tn⟩ ⟨dk, ⟨qk, qf, qs, qb, qr, qt, qe⟩⟩).1.work.kind), ((applyDec ⟨rs5, sh, ⟨pk, pf, ps, pb, pr, pt, pe⟩, tn⟩ ⟨dk, ⟨qk, qf, qs, qb, qr, qt, qe⟩⟩).1.work.first), ((applyDec ⟨rs5, sh, ⟨pk, pf, ps, pb, pr, pt, pe⟩, tn⟩ ⟨dk, ⟨qk, qf, qs, qb, qr, qt, qe⟩⟩).1.work.second), ((applyDec ⟨rs5, sh, ⟨pk, pf, ps, pb, pr, pt, pe⟩, tn⟩ ⟨dk, ⟨qk, qf, qs, qb, qr, qt, qe⟩⟩).1.work.key), ((applyDec ⟨rs5, sh, ⟨pk, pf, ps, pb, pr, pt, pe⟩, tn⟩ ⟨dk, ⟨qk, qf, qs, qb, qr, qt, qe⟩⟩).1.work.src), ((applyDec ⟨rs5, sh, ⟨pk, pf, ps, pb, pr, pt, pe⟩, tn⟩ ⟨dk, ⟨qk, qf, qs, qb, qr, qt, qe⟩⟩).1.work.dst), ((applyDec ⟨rs5, sh, ⟨pk, pf, ps, pb, pr, pt, pe⟩, tn⟩ ⟨dk, ⟨qk, qf, qs, qb, qr, qt, qe⟩⟩).1.work.step)⟩ ((applyDec ⟨rs5, sh, ⟨pk, pf, ps, pb, pr, pt, pe⟩, tn⟩ ⟨dk, ⟨qk, qf, qs, qb, qr, qt, qe⟩⟩).1.turn) = Master.mk us13 ((applyDec ⟨rs3, sh, ⟨pk, pf, ps, pb, pr, pt, pe⟩, tn⟩ ⟨dk, ⟨qk, qf, qs, qb, qr, qt, qe⟩⟩).1.shards) ⟨((applyDec ⟨rs3, sh, ⟨pk, pf, ps, pb, pr, pt, pe⟩, tn⟩ ⟨dk, ⟨qk, qf, qs, qb, qr, qt, qe⟩⟩).1.work.kind), ((applyDec ⟨rs3, sh, ⟨pk, pf, ps, pb, pr, pt, pe⟩, tn⟩ ⟨dk, ⟨qk, qf, qs, qb, qr, qt, qe⟩⟩).1.work.first), ((applyDec ⟨rs3, sh, ⟨pk, pf, ps, pb, pr, pt, pe⟩, tn⟩ ⟨dk, ⟨qk, qf, qs, qb, qr, qt, qe⟩⟩).1.work.second), ((applyDec ⟨rs3, sh, ⟨pk, pf, ps, pb, pr, pt, pe⟩, tn⟩ ⟨dk, ⟨qk, qf, qs, qb, qr, qt, qe⟩⟩).1.work.key), ((applyDec ⟨rs3, sh, ⟨pk, pf, ps, pb, pr, pt, pe⟩, tn⟩ ⟨dk, ⟨qk, qf, qs, qb, qr, qt, qe⟩⟩).1.work.src), ((applyDec ⟨rs3, sh, ⟨pk, pf, ps, pb, pr, pt, pe⟩, tn⟩ ⟨dk, ⟨qk, qf, qs, qb, qr, qt, qe⟩⟩).1.work.dst), ((applyDec ⟨rs3, sh, ⟨pk, pf, ps, pb, pr, pt, pe⟩, tn⟩ ⟨dk, ⟨qk, qf, qs, qb, qr, qt, qe⟩⟩).1.work.step)⟩ ((applyDec ⟨rs3, sh, ⟨pk, pf, ps, pb, pr, pt, pe⟩, tn⟩ ⟨dk, ⟨qk, qf, qs, qb, qr, qt, qe⟩⟩).1.turn))))
                            (k (.d (.bool false)) [])
                            (br (!((applyDec ⟨rs5, sh, ⟨pk, pf, ps, pb, pr, pt, pe⟩, tn⟩ ⟨dk, ⟨qk, qf, qs, qb, qr, qt, qe⟩⟩).2 == (applyDec ⟨rs3, sh, ⟨pk, pf, ps, pb, pr, pt, pe⟩, tn⟩ ⟨dk, ⟨qk, qf, qs, qb, qr, qt, qe⟩⟩).2))
                             (k (.d (.bool false)) [])
                             (bi (unRoutes ((applyDec ⟨rs5, sh, ⟨pk, pf, ps, pb, pr, pt, pe⟩, tn⟩ ⟨dk, ⟨qk, qf, qs, qb, qr, qt, qe⟩⟩).1.routes.map Route.pv)) fun rs14 =>
                              chk (decide (rs14.length ≤ 1048576))
                              (chk (decide (0 ≤ (1 : Int)) && decide ((1 : Int) ≤ 100))
                               (chk (decide (((applyDec ⟨rs5, sh, ⟨pk, pf, ps, pb, pr, pt, pe⟩, tn⟩ ⟨dk, ⟨qk, qf, qs, qb, qr, qt, qe⟩⟩).1.routes.map Route.pv).length = ((markRs rs14 (1 : Int)).map Route.pv).length))
                                (bi (unRoutes ((markRs rs14 (1 : Int)).map Route.pv)) fun rs15 =>
                                 chk (decide (rs15.length ≤ 1048576))
                                 (chk (decide (0 ≤ (1 : Int)) && decide ((1 : Int) ≤ 100))
                                  (br (decide ((heldRs rs15 (1 : Int)) < 0))
                                   (k (.d (.bool false)) [])
                                   (br ((heldRs rs15 (1 : Int)) != ((1 : Int) + 3 * (rs14.length : Int)))
                                    (k (.d (.bool false)) [])
                                    (bi (unRoutes xs) fun rs16 =>
                                     chk (decide (rs16.length ≤ 1048576))
                                     (bi (unRoutes (rs16.map Route.pv)) fun rs17 =>
                                      chk (decide (rs17.length ≤ 1048576))
                                      (bi (unRoutes ((applyDec ⟨rs17, sh, ⟨pk, pf, ps, pb, pr, pt, pe⟩, tn⟩ ⟨dk, ⟨qk, qf, qs, qb, qr, qt, qe⟩⟩).1.routes.map Route.pv)) fun rs18 =>
                                       bi (unRoutes ((applyDec ⟨rs3, sh, ⟨pk, pf, ps, pb, pr, pt, pe⟩, tn⟩ ⟨dk, ⟨qk, qf, qs, qb, qr, qt, qe⟩⟩).1.routes.map Route.pv)) fun us19 =>
                                       chk (decide (rs18.length ≤ 1048576))
                                       (chk (decide (us19.length ≤ 1048576))
                                        (br (!(decide (Master.mk rs18 ((applyDec ⟨rs17, sh, ⟨pk, pf, ps, pb, pr, pt, pe⟩, tn⟩ ⟨dk, ⟨qk, qf, qs, qb, qr, qt, qe⟩⟩).1.shards) ⟨((applyDec ⟨rs17, sh, ⟨pk, pf, ps, pb, pr, pt, pe⟩, tn⟩ ⟨dk, ⟨qk, qf, qs, qb, qr, qt, qe⟩⟩).1.work.kind), ((applyDec ⟨rs17, sh, ⟨pk, pf, ps, pb, pr, pt, pe⟩, tn⟩ ⟨dk, ⟨qk, qf, qs, qb, qr, qt, qe⟩⟩).1.work.first), ((applyDec ⟨rs17, sh, ⟨pk, pf, ps, pb, pr, pt, pe⟩, tn⟩ ⟨dk, ⟨qk, qf, qs, qb, qr, qt, qe⟩⟩).1.work.second), ((applyDec ⟨rs17, sh, ⟨pk, pf, ps, pb, pr, pt, pe⟩, tn⟩ ⟨dk, ⟨qk, qf, qs, qb, qr, qt, qe⟩⟩).1.work.key), ((applyDec ⟨rs17, sh, ⟨pk, pf, ps, pb, pr, pt, pe⟩, tn⟩ ⟨dk, ⟨qk, qf, qs, qb, qr, qt, qe⟩⟩).1.work.src), ((applyDec ⟨rs17, sh, ⟨pk, pf, ps, pb, pr, pt, pe⟩, tn⟩ ⟨dk, ⟨qk, qf, qs, qb, qr, qt, qe⟩⟩).1.work.dst), ((applyDec ⟨rs17, sh, ⟨pk, pf, ps, pb, pr, pt, pe⟩, tn⟩ ⟨dk, ⟨qk, qf, qs, qb, qr, qt, qe⟩⟩).1.work.step)⟩ ((applyDec ⟨rs17, sh, ⟨pk, pf, ps, pb, pr, pt, pe⟩, tn⟩ ⟨dk, ⟨qk, qf, qs, qb, qr, qt, qe⟩⟩).1.turn) = Master.mk us19 ((applyDec ⟨rs3, sh, ⟨pk, pf, ps, pb, pr, pt, pe⟩, tn⟩ ⟨dk, ⟨qk, qf, qs, qb, qr, qt, qe⟩⟩).1.shards) ⟨((applyDec ⟨rs3, sh, ⟨pk, pf, ps, pb, pr, pt, pe⟩, tn⟩ ⟨dk, ⟨qk, qf, qs, qb, qr, qt, qe⟩⟩).1.work.kind), ((applyDec ⟨rs3, sh, ⟨pk, pf, ps, pb, pr, pt, pe⟩, tn⟩ ⟨dk, ⟨qk, qf, qs, qb, qr, qt, qe⟩⟩).1.work.first), ((applyDec ⟨rs3, sh, ⟨pk, pf, ps, pb, pr, pt, pe⟩, tn⟩ ⟨dk, ⟨qk, qf, qs, qb, qr, qt, qe⟩⟩).1.work.second), ((applyDec ⟨rs3, sh, ⟨pk, pf, ps, pb, pr, pt, pe⟩, tn⟩ ⟨dk, ⟨qk, qf, qs, qb, qr, qt, qe⟩⟩).1.work.key), ((applyDec ⟨rs3, sh, ⟨pk, pf, ps, pb, pr, pt, pe⟩, tn⟩ ⟨dk, ⟨qk, qf, qs, qb, qr, qt, qe⟩⟩).1.work.src), ((applyDec ⟨rs3, sh, ⟨pk, pf, ps, pb, pr, pt, pe⟩, tn⟩ ⟨dk, ⟨qk, qf, qs, qb, qr, qt, qe⟩⟩).1.work.dst), ((applyDec ⟨rs3, sh, ⟨pk, pf, ps, pb, pr, pt, pe⟩, tn⟩ ⟨dk, ⟨qk, qf, qs, qb, qr, qt, qe⟩⟩).1.work.step)⟩ ((applyDec ⟨rs3, sh, ⟨pk, pf, ps, pb, pr, pt, pe⟩, tn⟩ ⟨dk, ⟨qk, qf, qs, qb, qr, qt, qe⟩⟩).1.turn))))
                                         (k (.d (.bool false)) [])
                                         (br (!((applyDec ⟨rs17, sh, ⟨pk, pf, ps, pb, pr, pt, pe⟩, tn⟩ ⟨dk, ⟨qk, qf, qs, qb, qr, qt, qe⟩⟩).2 == (applyDec ⟨rs3, sh, ⟨pk, pf, ps, pb, pr, pt, pe⟩, tn⟩ ⟨dk, ⟨qk, qf, qs, qb, qr, qt, qe⟩⟩).2))
                                          (k (.d (.bool false)) [])
                                          (bi (unRoutes ((markRs rs14 (1 : Int)).map Route.pv)) fun rs20 =>
                                          chk (decide (rs20.length ≤ 1048576))
                                          (chk (decide (0 ≤ (1 : Int)) && decide ((1 : Int) ≤ 100))
                                          (br (decide ((heldRs rs20 (1 : Int)) < 0))
                                          (k (.d (.bool false)) [])
                                          (br ((heldRs rs20 (1 : Int)) != ((1 : Int) + 3 * (rs14.length : Int)))
                                          (k (.d (.bool false)) [])
                                          (k (.d (.bool true)) [])))))))))))))))))))))))))))))))))))))))))))))

def laws_FnExactApplyDecision_dr8 : List DI := [⟨0, 0, [6, 29], [], 4⟩, ⟨1, 1, [6, 29], [], 0⟩, ⟨2, 0, [6, 27, 28], [], 4⟩, ⟨3, 7, [6], [], 1⟩, ⟨4, 15, [6], [], 2⟩, ⟨5, 31, [6], [], 4⟩, ⟨6, 63, [6, 33], [], 4⟩, ⟨7, 63, [6, 32], [], 4⟩, ⟨8, 0, [26, 27, 28, 29, 30, 31, 32, 33], [], 3⟩, ⟨9, 383, [33], [], 4⟩, ⟨10, 1023, [], [], 4⟩]

def laws_FnExactApplyDecision_dr10 : List DI := [⟨0, 0, [9, 38, 39], [], 3⟩, ⟨1, 0, [9, 37], [], 3⟩, ⟨2, 2, [9, 37], [], 0⟩, ⟨3, 7, [9], [], 1⟩, ⟨4, 15, [9], [], 3⟩, ⟨5, 31, [9, 42], [], 3⟩, ⟨6, 31, [9, 41], [], 3⟩, ⟨7, 0, [36, 37, 38, 39, 40, 41, 42], [], 2⟩, ⟨8, 191, [42], [], 3⟩, ⟨9, 511, [], [], 3⟩]

def laws_FnExactApplyDecision_dr13 : List DI := [⟨0, 0, [53, 54], [], 2⟩, ⟨1, 0, [52], [], 2⟩, ⟨2, 2, [52], [], 0⟩, ⟨3, 7, [], [], 1⟩, ⟨4, 15, [], [], 2⟩]

def laws_FnExactApplyDecision_dr27 : List DI := [⟨0, 0, [14, 87], [], 4⟩, ⟨1, 1, [14, 87], [], 0⟩, ⟨2, 0, [14, 85, 86], [], 4⟩, ⟨3, 7, [14], [], 1⟩, ⟨4, 15, [14], [], 2⟩, ⟨5, 31, [14], [], 4⟩, ⟨6, 63, [14, 91], [], 4⟩, ⟨7, 63, [14, 90], [], 4⟩, ⟨8, 0, [84, 85, 86, 87, 88, 89, 90, 91], [], 3⟩, ⟨9, 383, [91], [], 4⟩, ⟨10, 1023, [], [], 4⟩]

def laws_FnExactApplyDecision_C (N : Nat) : CC := ⟨Γ_laws_heldMaster, Λ0, (Δc 27 laws_FnExactApplyDecision_dr27 (Δc 13 laws_FnExactApplyDecision_dr13 (Δc 10 laws_FnExactApplyDecision_dr10 (Δc 8 laws_FnExactApplyDecision_dr8 Δ0)))), Μ0⟩

theorem laws_FnExactApplyDecision_C_Γ (N : Nat) : ∀ f s, (laws_FnExactApplyDecision_C N).Γ f = some s → SmrOK Try.prog f s := Γ_laws_heldMaster_ok

theorem laws_FnExactApplyDecision_C_Λ (N : Nat) : ∀ c, Try.f3.body = some c → ∀ b ∈ loopsIn c, ∀ s, (laws_FnExactApplyDecision_C N).Λ (lid b) = some s → LOK Try.prog Try.f3.ntmps 0 b s :=
  LOKs_ofF (bs := []) (by kernel_rfl) LOKs_n

theorem laws_FnExactApplyDecision_run {R : Type} (N : Nat) (xs : List (List PV)) (sh : Int) (pk : Int) (pf : Int) (ps : Int) (pb : ByteArray) (pr : Int) (pt : Int) (pe : Int) (tn : Int) (dk : Int) (qk : Int) (qf : Int) (qs : Int) (qb : ByteArray) (qr : Int) (qt : Int) (qe : Int) (k : AV → List AB → Option R) :
    cfunN tt (laws_FnExactApplyDecision_C N) Try.f3 0 [.agg [.d (.ls xs), .d (.int .i64 sh), .d (.int .i64 pk), .d (.int .i64 pf), .d (.int .i64 ps), .d (.str pb), .d (.int .i64 pr), .d (.int .i64 pt), .d (.int .i64 pe), .d (.int .i64 tn)], .agg [.d (.int .i64 dk), .d (.int .i64 qk), .d (.int .i64 qf), .d (.int .i64 qs), .d (.str qb), .d (.int .i64 qr), .d (.int .i64 qt), .d (.int .i64 qe)]] [] k = laws_FnExactApplyDecision_c N xs sh pk pf ps pb pr pt pe tn dk qk qf qs qb qr qt qe k := by kernel_rfl

theorem laws_FnExactApplyDecision_ceq {R : Type} (N : Nat) (sh : Int) (pk : Int) (pf : Int) (ps : Int) (pb : ByteArray) (pr : Int) (pt : Int) (pe : Int) (tn : Int) (dk : Int) (qk : Int) (qf : Int) (qs : Int) (qb : ByteArray) (qr : Int) (qt : Int) (qe : Int) (rs : List Route) (k : AV → List AB → Option R) (hp1 : (decide (rs.length ≤ 140737488355328)) = true) (hp2 : (rs.all (fun r => decide (r.low.size ≤ 140737488355328) && decide (r.high.size ≤ 140737488355328))) = true) (hp3 : (decide (pb.size ≤ 140737488355328)) = true) (hp4 : (decide (qb.size ≤ 140737488355328)) = true) :
    laws_FnExactApplyDecision_c N (rs.map Route.pv) sh pk pf ps pb pr pt pe tn dk qk qf qs qb qr qt qe k = k (.d (.bool true)) [] := by
  have hp1' := hp1
  simp only [decide_eq_true_eq] at hp1'
  have e7 : (decide ((0 : Int) ≤ 1048576) && decide ((1048576 : Int) ≤ 1048576)) = true := by decide
  simp only [laws_FnExactApplyDecision_c, Route.pv, Iv.pv, dInt_c, dStr_c, List.length_cons, List.length_nil, Nat.zero_add, Nat.reduceAdd, chk_beq, chk_t, br_t, br_f, bi_s, unRoutes_map, unIvs_map, hp1, hp2, hp3, e7]
  by_cases h1 : szRes 1048576 (rs.length + costs rs + pb.size) < 0
  · rw [decide_eq_true h1, br_t]
  obtain ⟨h2, h3⟩ := szRes_pos h1
  have hl : rs.length ≤ 1048576 := by omega
  rw [decide_eq_false h1, br_f, h3]
  have b1 : (decide (0 ≤ (1048576 : Int) - ((rs.length + costs rs + pb.size : Nat) : Int)) && decide ((1048576 : Int) - ((rs.length + costs rs + pb.size : Nat) : Int) ≤ 1048576)) = true := by
    rw [decide_eq_true (by omega), decide_eq_true (by omega)]; rfl
  simp only [b1, hp4, chk_t]
  by_cases h4 : szRes ((1048576 : Int) - ((rs.length + costs rs + pb.size : Nat) : Int)) qb.size < 0
  · rw [decide_eq_true h4, br_t]
  rw [decide_eq_false h4, br_f]
  have hA := applyDec_len ⟨rs, sh, ⟨pk, pf, ps, pb, pr, pt, pe⟩, tn⟩ ⟨dk, ⟨qk, qf, qs, qb, qr, qt, qe⟩⟩
  generalize applyDec ⟨rs, sh, ⟨pk, pf, ps, pb, pr, pt, pe⟩, tn⟩ ⟨dk, ⟨qk, qf, qs, qb, qr, qt, qe⟩⟩ = A at hA ⊢
  have e1 : decide (rs.length ≤ 1048576) = true := decide_eq_true hl
  have e2 : decide (A.1.routes.length ≤ 1048576) = true := decide_eq_true (by omega)
  have e3 : decide ((markRs A.1.routes 1).length ≤ 1048576) = true := decide_eq_true (by rw [markRs_len]; omega)
  have e4 : decide ((1 : Int) + 3 * (rs.length : Int) < 0) = false := decide_eq_false (by omega)
  have e5 : decide ((1 : Int) + 3 * (A.1.routes.length : Int) < 0) = false := decide_eq_false (by omega)
  have e6 : (decide ((0 : Int) ≤ 1) && decide ((1 : Int) ≤ 100)) = true := by decide
  simp only [e1, e2, e3, e6, Route.pv, Iv.pv, dInt_c, dStr_c, List.length_cons, List.length_nil, Nat.zero_add, Nat.reduceAdd, chk_beq, chk_t, br_t, br_f, bi_s, unRoutes_map, unIvs_map, held_mark, markRs_len, List.length_map, e4, e5, decide_true, Bool.not_true, beq_self_eq_true, bne_self_eq_false]
def laws_FnExactApplyDecision_sm : Smr := ⟨[false, false], fun R args mem k => match nilAVs args, mem with
  | [.agg [.d (.ls xs), .d (.int .i64 sh), .d (.int .i64 pk), .d (.int .i64 pf), .d (.int .i64 ps), .d (.str pb), .d (.int .i64 pr), .d (.int .i64 pt), .d (.int .i64 pe), .d (.int .i64 tn)], .agg [.d (.int .i64 dk), .d (.int .i64 qk), .d (.int .i64 qf), .d (.int .i64 qs), .d (.str qb), .d (.int .i64 qr), .d (.int .i64 qt), .d (.int .i64 qe)]], [] => bi (unRoutes xs) fun rs => chk (decide (rs.length ≤ 140737488355328)) (chk (rs.all (fun r => decide (r.low.size ≤ 140737488355328) && decide (r.high.size ≤ 140737488355328))) (chk (decide (pb.size ≤ 140737488355328)) (chk (decide (qb.size ≤ 140737488355328)) (k (.d (.bool true)) []))))
  | _, _ => none⟩

theorem laws_FnExactApplyDecision_ok : SmrOK Try.prog 3 laws_FnExactApplyDecision_sm := by
  intro R args mem k r h
  simp only [laws_FnExactApplyDecision_sm] at h
  generalize hA : nilAVs args = args' at h
  split at h
  · rename_i xs sh pk pf ps pb pr pt pe tn dk qk qf qs qb qr qt qe
    obtain ⟨rs, hd0, h1⟩ := bi_eq h
    have hd0 := unRoutes_eq hd0
    subst hd0
    obtain ⟨hp1, h2⟩ := chk_eq h1
    obtain ⟨hp2, h3⟩ := chk_eq h2
    obtain ⟨hp3, h4⟩ := chk_eq h3
    obtain ⟨hp4, h5⟩ := chk_eq h4
    replace h := h5
    refine ⟨_, _, Spec.nl hA (spec_of_run tt_ok mixed (laws_FnExactApplyDecision_C_Γ 0) Try.func3 (by kernel_rfl) (mem := []) (Nat.le_of_ble_eq_true (by kernel_rfl)) (laws_FnExactApplyDecision_C_Λ 0) ((laws_FnExactApplyDecision_run 0 (rs.map Route.pv) sh pk pf ps pb pr pt pe tn dk qk qf qs qb qr qt qe _).trans ((laws_FnExactApplyDecision_ceq 0 sh pk pf ps pb pr pt pe tn dk qk qf qs qb qr qt qe rs _ hp1 hp2 hp3 hp4).trans ?_))), h⟩
    rfl
  · cases h

def Γ_laws_FnExactApplyDecision : FuncId → Option Smr := Γc 3 laws_FnExactApplyDecision_sm Γ_laws_heldMaster
theorem Γ_laws_FnExactApplyDecision_ok : ∀ f s, Γ_laws_FnExactApplyDecision f = some s → SmrOK Try.prog f s := Γc_ok laws_FnExactApplyDecision_ok Γ_laws_heldMaster_ok

end Go.Proofs.Ytfeiaibdnnhlaaa
