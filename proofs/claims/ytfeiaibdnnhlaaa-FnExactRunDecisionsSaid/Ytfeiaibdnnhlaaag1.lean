import Derived.Test.Ytfeiaibdnnhlaaad3
import Derived.Test.Ytfeiaibdnnhlaaau1
/- Keys and intervals. -/
set_option linter.unusedVariables false
set_option linter.unusedSimpArgs false
namespace Go.Proofs.Ytfeiaibdnnhlaaa
theorem Γ0_ok : ∀ f s, Γ0 f = some s → SmrOK Try.prog f s := Γ0_ok'
/- spec.l1In -/

def spec_l1In_c {R : Type} (N : Nat) (n : Int) (low : Int) (high : Int) (k : AV → List AB → Option R) : Option R :=
  br (decide (n ≥ low))
  (k (.d (.bool (decide (n ≤ high)))) [])
  (k (.d (.bool false)) [])

def spec_l1In_C (N : Nat) : CC := ⟨Γ0, Λ0, Δ0, Μ0⟩

theorem spec_l1In_C_Γ (N : Nat) : ∀ f s, (spec_l1In_C N).Γ f = some s → SmrOK Try.prog f s := Γ0_ok

theorem spec_l1In_C_Λ (N : Nat) : ∀ c, Try.f77.body = some c → ∀ b ∈ loopsIn c, ∀ s, (spec_l1In_C N).Λ (lid b) = some s → LOK Try.prog Try.f77.ntmps 0 b s :=
  LOKs_ofF (bs := []) (by kernel_rfl) LOKs_n

theorem spec_l1In_run {R : Type} (N : Nat) (n : Int) (low : Int) (high : Int) (k : AV → List AB → Option R) :
    cfunN tt (spec_l1In_C N) Try.f77 0 [.d (.int .i64 n), .d (.int .i64 low), .d (.int .i64 high)] [] k = spec_l1In_c N n low high k := by kernel_rfl

theorem spec_l1In_ceq {R : Type} (N : Nat) (n : Int) (low : Int) (high : Int) (k : AV → List AB → Option R) :
    spec_l1In_c N n low high k = k (.d (.bool (decide (low ≤ n) && decide (n ≤ high)))) [] := by
  simp only [spec_l1In_c]
  by_cases h : n ≥ low <;> simp [br, h]
def spec_l1In_sm : Smr := ⟨[false, false, false], fun R args mem k => match nilAVs args, mem with
  | [.d (.int .i64 n), .d (.int .i64 low), .d (.int .i64 high)], [] => k (.d (.bool (decide (low ≤ n) && decide (n ≤ high)))) []
  | _, _ => none⟩

theorem spec_l1In_ok : SmrOK Try.prog 77 spec_l1In_sm := by
  intro R args mem k r h
  simp only [spec_l1In_sm] at h
  generalize hA : nilAVs args = args' at h
  split at h
  · rename_i n low high
    refine ⟨_, _, Spec.nl hA (spec_of_run tt_ok mixed (spec_l1In_C_Γ 0) Try.func77 (by kernel_rfl) (mem := []) (Nat.le_of_ble_eq_true (by kernel_rfl)) (spec_l1In_C_Λ 0) ((spec_l1In_run 0 n low high _).trans ((spec_l1In_ceq 0 n low high _).trans ?_))), h⟩
    rfl
  · cases h

def Γ_spec_l1In : FuncId → Option Smr := Γc 77 spec_l1In_sm Γ0
theorem Γ_spec_l1In_ok : ∀ f s, Γ_spec_l1In f = some s → SmrOK Try.prog f s := Γc_ok spec_l1In_ok Γ0_ok


theorem letters_iff {s : ByteArray} : letters s = true ↔ ∀ i, i < s.size → 97 ≤ bAt s i ∧ bAt s i ≤ 122 := by simp [letters]
theorem letters_f {s : ByteArray} {i : Nat} (hi : i < s.size) (h : ¬ (97 ≤ bAt s i ∧ bAt s i ≤ 122)) : letters s = false := by
  rw [Bool.eq_false_iff]; intro h'; exact h (letters_iff.1 h' i hi)

/- spec.KeyValid -/

def spec_KeyValid_B4 {R : Type} (N : Nat) (rec : ByteArray → Int → Option R) (s : ByteArray) (vk : Int) (k1 : Bool → Option R) (k2 : Option R) : Option R :=
  br (decide (vk < (s.size : Int)))
  (getB s vk fun c1 =>
   br (decide (c1 < 97))
   (k1 false)
   (getB s vk fun c2 =>
    br (decide (c2 > 122))
    (k1 false)
    (rec s (IntKind.i64.wrap (vk + 1)))))
  (k2 )

def spec_KeyValid_L4 {R : Type} (N : Nat) (k1 : Bool → Option R) (k2 : Option R) : Nat → ByteArray → Int → Option R
  | 0, _, _ => none
  | M + 1, s, vk => spec_KeyValid_B4 N (spec_KeyValid_L4 N k1 k2 M) s vk k1 k2

def spec_KeyValid_L4_x (e : Ex) : List Nat := (fun e => match e with
    | .normal => []
    | .exit id => match Nat.beq id 0 with | true => [] | false => []
    | .ret => [2]) e

def spec_KeyValid_C4 (N : Nat) : CC := ⟨Γ_spec_l1In, Λ0, Δ0, Μ0⟩

theorem spec_KeyValid_C4_Γ (N : Nat) : ∀ f s, (spec_KeyValid_C4 N).Γ f = some s → SmrOK Try.prog f s := Γ_spec_l1In_ok

theorem spec_KeyValid_C4_Λ (N : Nat) : ∀ b ∈ loopsIn (lpF Try.f78 0), ∀ s, (spec_KeyValid_C4 N).Λ (lid b) = some s → LOK Try.prog 24 0 b s :=
  LOKs_of (bs := []) (by kernel_rfl) LOKs_n

theorem spec_KeyValid_B4_eq {R : Type} (N : Nat) (rec : TL → List AB → Option R) (s : ByteArray) (vk : Int) (k : Ex → TL → List AB → Option R) :
    (crun tt (spec_KeyValid_C4 N) 24 (lpF Try.f78 0)) [(0, .d (.str s)), (3, .d (.int .i64 vk))] [] (lnext 24 0 [] [0, 3] rec (lexit 24 0 spec_KeyValid_L4_x k)) =
    spec_KeyValid_B4 N (fun s vk => rec [(0, .d (.str s)), (3, .d (.int .i64 vk))] []) s vk (fun v => k (.ret) [(2, .d (.bool v))] []) (k (.exit 0) [] []) := by kernel_rfl

theorem spec_KeyValid_L4_eq {R : Type} (N : Nat) (k : Ex → TL → List AB → Option R) : ∀ (M : Nat) (s : ByteArray) (vk : Int), loopG 24 0 [] (crun tt (spec_KeyValid_C4 N) 24 (lpF Try.f78 0)) [0, 3] (lexit 24 0 spec_KeyValid_L4_x k) M [(0, .d (.str s)), (3, .d (.int .i64 vk))] [] =
    spec_KeyValid_L4 N (fun v => k (.ret) [(2, .d (.bool v))] []) (k (.exit 0) [] []) M s vk
  | 0, _, _ => rfl
  | M + 1, s, vk => (spec_KeyValid_B4_eq N (loopG 24 0 [] (crun tt (spec_KeyValid_C4 N) 24 (lpF Try.f78 0)) [0, 3] (lexit 24 0 spec_KeyValid_L4_x k) M) s vk k).trans (congrArg (fun rec => spec_KeyValid_B4 N rec s vk (fun v => k (.ret) [(2, .d (.bool v))] []) (k (.exit 0) [] [])) (funext fun s => (funext fun vk => spec_KeyValid_L4_eq N k M s vk)))

def spec_KeyValid_L4_s (N : Nat) : LSum := fun R l m k => gcf 24 0 [] [0, 3] l m fun l2 m2 => match l2, m2 with
  | [(z1, .d (.str s)), (z2, .d (.int .i64 vk))], [] => chk (Nat.beq z1 0 && Nat.beq z2 3) (spec_KeyValid_L4 N (fun v => k (.ret) [(2, .d (.bool v))] []) (k (.exit 0) [] []) N s vk)
  | _, _ => none

theorem spec_KeyValid_L4_ok (N : Nat) : LOK Try.prog 24 0 (lpF Try.f78 0) (spec_KeyValid_L4_s N) := by
  refine (lsum_ok tt_ok mixed (spec_KeyValid_C4_Γ N) (spec_KeyValid_C4_Λ N) [] [0, 3] spec_KeyValid_L4_x N).of ?_
  intro R l m k r h
  unfold spec_KeyValid_L4_s at h
  refine gcf_mono ?_ h
  intro l2 m2 h
  split at h
  · obtain ⟨hc, h⟩ := chk_eq h
    simp only [Bool.and_eq_true, Nat.beq_eq_true_eq] at hc
    obtain ⟨rfl, rfl⟩ := hc
    rw [spec_KeyValid_L4_eq]
    exact h
  · cases h

def spec_KeyValid_c {R : Type} (N : Nat) (s : ByteArray) (k : AV → List AB → Option R) : Option R :=
  br (!(decide ((1 : Int) ≤ (s.size : Int)) && decide ((s.size : Int) ≤ (4 : Int))))
  (k (.d (.bool false)) [])
  (spec_KeyValid_L4 N (fun v =>
    k (.d (.bool v)) [])
   (k (.d (.bool true)) []) N s 0)

def spec_KeyValid_C (N : Nat) : CC := ⟨Γ_spec_l1In, (Λc 4 (spec_KeyValid_L4_s N) Λ0), Δ0, Μ0⟩

theorem spec_KeyValid_C_Γ (N : Nat) : ∀ f s, (spec_KeyValid_C N).Γ f = some s → SmrOK Try.prog f s := Γ_spec_l1In_ok

theorem spec_KeyValid_C_Λ (N : Nat) : ∀ c, Try.f78.body = some c → ∀ b ∈ loopsIn c, ∀ s, (spec_KeyValid_C N).Λ (lid b) = some s → LOK Try.prog Try.f78.ntmps 0 b s :=
  LOKs_ofF (bs := [(lpF Try.f78 0)]) (by kernel_rfl) (LOKs_c (l := spec_KeyValid_L4_s N) (by kernel_rfl) (spec_KeyValid_L4_ok N) LOKs_n)

theorem spec_KeyValid_run {R : Type} (N : Nat) (s : ByteArray) (k : AV → List AB → Option R) :
    cfunN tt (spec_KeyValid_C N) Try.f78 0 [.d (.str s)] [] k = spec_KeyValid_c N s k := by kernel_rfl

theorem KeyValid_loop {R : Type} (N : Nat) (s : ByteArray) (hs : s.size ≤ 4) (k1 : Bool → Option R) (k2 : Option R) : ∀ (M i : Nat), i ≤ s.size → s.size < i + M → (∀ j, j < i → 97 ≤ bAt s j ∧ bAt s j ≤ 122) →
    spec_KeyValid_L4 N k1 k2 M s (i : Int) = if letters s then k2 else k1 false
  | 0, i, h1, h2, _ => by omega
  | M + 1, i, h1, h2, hi => by
    simp only [spec_KeyValid_L4, spec_KeyValid_B4]
    by_cases h : i < s.size
    · have h0 : decide ((i : Int) < (s.size : Int)) = true := by simp [h]
      rw [h0, br_t, getB_in h]
      by_cases ha : bAt s i < 97
      · rw [decide_eq_true ha, br_t, letters_f h (by omega)]; rfl
      · rw [decide_eq_false ha, br_f, getB_in h]
        by_cases hb : bAt s i > 122
        · rw [decide_eq_true hb, br_t, letters_f h (by omega)]; rfl
        · rw [decide_eq_false hb, br_f, wrap_s (by omega)]
          refine KeyValid_loop N s hs k1 k2 M (i + 1) (by omega) (by omega) fun j hj => ?_
          by_cases e : j = i
          · subst e; omega
          · exact hi j (by omega)
    · have h0 : decide ((i : Int) < (s.size : Int)) = false := by simp; omega
      rw [h0, br_f, letters_iff.2 fun j hj => hi j (by omega)]; rfl
theorem spec_KeyValid_ceq {R : Type} (N : Nat) (s : ByteArray) (k : AV → List AB → Option R) (hN : 8 ≤ N) :
    spec_KeyValid_c N s k = k (.d (.bool (keyOk s))) [] := by
  simp only [spec_KeyValid_c]
  by_cases h : 1 ≤ s.size ∧ s.size ≤ 4
  · have h0 : (!(decide (1 ≤ (s.size : Int)) && decide ((s.size : Int) ≤ 4))) = false := by simp; omega
    have := KeyValid_loop N s h.2 (fun v => k (.d (.bool v)) []) (k (.d (.bool true)) []) N 0 (by omega) (by omega) (fun j hj => by omega)
    rw [h0, br_f]
    refine this.trans ?_
    simp only [keyOk, h, decide_true, Bool.true_and]
    cases letters s <;> rfl
  · have h0 : (!(decide (1 ≤ (s.size : Int)) && decide ((s.size : Int) ≤ 4))) = true := by simp; omega
    have h1 : keyOk s = false := by simp [keyOk]; omega
    rw [h0, br_t, h1]
def spec_KeyValid_sm : Smr := ⟨[false], fun R args mem k => match nilAVs args, mem with
  | [.d (.str s)], [] => k (.d (.bool (keyOk s))) []
  | _, _ => none⟩

theorem spec_KeyValid_ok : SmrOK Try.prog 78 spec_KeyValid_sm := by
  intro R args mem k r h
  simp only [spec_KeyValid_sm] at h
  generalize hA : nilAVs args = args' at h
  split at h
  · rename_i s
    refine ⟨_, _, Spec.nl hA (spec_of_run tt_ok mixed (spec_KeyValid_C_Γ (8)) Try.func78 (by kernel_rfl) (mem := []) (Nat.le_of_ble_eq_true (by kernel_rfl)) (spec_KeyValid_C_Λ (8)) ((spec_KeyValid_run (8) s _).trans ((spec_KeyValid_ceq (8) s _ (Nat.le_refl _)).trans ?_))), h⟩
    rfl
  · cases h

def Γ_spec_KeyValid : FuncId → Option Smr := Γc 78 spec_KeyValid_sm Γ_spec_l1In
theorem Γ_spec_KeyValid_ok : ∀ f s, Γ_spec_KeyValid f = some s → SmrOK Try.prog f s := Γc_ok spec_KeyValid_ok Γ_spec_l1In_ok


/- spec.IntervalValid -/

def spec_IntervalValid_c {R : Type} (N : Nat) (a : ByteArray) (b : ByteArray) (k : AV → List AB → Option R) : Option R :=
  br (!(decide (a = (⟨#[]⟩ : ByteArray))))
  (br (!(keyOk a))
   (k (.d (.bool false)) [])
   (br (!(decide (b = (⟨#[]⟩ : ByteArray))))
    (br (!(keyOk b))
     (k (.d (.bool false)) [])
     (br (decide (b = (⟨#[]⟩ : ByteArray)))
      (k (.d (.bool true)) [])
      (br (Op.bytesLess a.toList b.toList)
       (br (!(decide (a = (⟨#[]⟩ : ByteArray))))
        (k (.d (.bool true)) [])
        (k (.d (.bool (!(decide (b = (⟨#[97]⟩ : ByteArray)))))) []))
       (k (.d (.bool false)) []))))
    (br (decide (b = (⟨#[]⟩ : ByteArray)))
     (k (.d (.bool true)) [])
     (br (Op.bytesLess a.toList b.toList)
      (br (!(decide (a = (⟨#[]⟩ : ByteArray))))
       (k (.d (.bool true)) [])
       (k (.d (.bool (!(decide (b = (⟨#[97]⟩ : ByteArray)))))) []))
      (k (.d (.bool false)) [])))))
  (br (!(decide (b = (⟨#[]⟩ : ByteArray))))
   (br (!(keyOk b))
    (k (.d (.bool false)) [])
    (br (decide (b = (⟨#[]⟩ : ByteArray)))
     (k (.d (.bool true)) [])
     (br (Op.bytesLess a.toList b.toList)
      (br (!(decide (a = (⟨#[]⟩ : ByteArray))))
       (k (.d (.bool true)) [])
       (k (.d (.bool (!(decide (b = (⟨#[97]⟩ : ByteArray)))))) []))
      (k (.d (.bool false)) []))))
   (br (decide (b = (⟨#[]⟩ : ByteArray)))
    (k (.d (.bool true)) [])
    (br (Op.bytesLess a.toList b.toList)
     (br (!(decide (a = (⟨#[]⟩ : ByteArray))))
      (k (.d (.bool true)) [])
      (k (.d (.bool (!(decide (b = (⟨#[97]⟩ : ByteArray)))))) []))
     (k (.d (.bool false)) []))))

def spec_IntervalValid_C (N : Nat) : CC := ⟨Γ_spec_KeyValid, Λ0, Δ0, Μ0⟩

theorem spec_IntervalValid_C_Γ (N : Nat) : ∀ f s, (spec_IntervalValid_C N).Γ f = some s → SmrOK Try.prog f s := Γ_spec_KeyValid_ok

theorem spec_IntervalValid_C_Λ (N : Nat) : ∀ c, Try.f99.body = some c → ∀ b ∈ loopsIn c, ∀ s, (spec_IntervalValid_C N).Λ (lid b) = some s → LOK Try.prog Try.f99.ntmps 0 b s :=
  LOKs_ofF (bs := []) (by kernel_rfl) LOKs_n

theorem spec_IntervalValid_run {R : Type} (N : Nat) (a : ByteArray) (b : ByteArray) (k : AV → List AB → Option R) :
    cfunN tt (spec_IntervalValid_C N) Try.f99 0 [.agg [.d (.str a), .d (.str b)]] [] k = spec_IntervalValid_c N a b k := by kernel_rfl

theorem letters_of_key {b : ByteArray} (h : keyOk b = true) : letters b = true := by simp only [keyOk, Bool.and_eq_true] at h; exact h.2
theorem key_ne {b : ByteArray} (h : keyOk b = true) : ¬ b = ⟨#[]⟩ := by
  intro e; subst e; exact absurd h (by rw [show keyOk ⟨#[]⟩ = false from rfl]; decide)
theorem nil_less {b : ByteArray} (h : ¬ b = ⟨#[]⟩) : Op.bytesLess [] b.toList = true := by
  obtain ⟨⟨l⟩⟩ := b
  have e : (⟨#[]⟩ : ByteArray) = ⟨([] : List UInt8).toArray⟩ := rfl
  rw [e] at h
  simp only [mk_inj] at h
  cases l with
  | nil => exact absurd rfl h
  | cons c r => simp [Op.bytesLess]

theorem spec_IntervalValid_ceq {R : Type} (N : Nat) (a : ByteArray) (b : ByteArray) (k : AV → List AB → Option R) :
    spec_IntervalValid_c N a b k = k (.d (.bool (ivOk ⟨a, b⟩))) [] := by
  simp only [spec_IntervalValid_c, br_kb, br_not]
  congr 3
  by_cases hb : b = ⟨#[]⟩
  · subst hb
    by_cases ha : a = ⟨#[]⟩ <;> cases h1 : keyOk a <;> simp [ivOk, ha, h1]
  · by_cases ha : a = ⟨#[]⟩
    · subst ha
      cases h2 : keyOk b
      · simp [ivOk, hb, h2]
      · simp [ivOk, hb, h2, nil_less hb, less_a h2]
    · cases h1 : keyOk a <;> cases h2 : keyOk b <;> simp [ivOk, ha, hb, h1, h2, less]
def spec_IntervalValid_sm : Smr := ⟨[false], fun R args mem k => match nilAVs args, mem with
  | [.agg [.d (.str a), .d (.str b)]], [] => k (.d (.bool (ivOk ⟨a, b⟩))) []
  | _, _ => none⟩

theorem spec_IntervalValid_ok : SmrOK Try.prog 99 spec_IntervalValid_sm := by
  intro R args mem k r h
  simp only [spec_IntervalValid_sm] at h
  generalize hA : nilAVs args = args' at h
  split at h
  · rename_i a b
    refine ⟨_, _, Spec.nl hA (spec_of_run tt_ok mixed (spec_IntervalValid_C_Γ 0) Try.func99 (by kernel_rfl) (mem := []) (Nat.le_of_ble_eq_true (by kernel_rfl)) (spec_IntervalValid_C_Λ 0) ((spec_IntervalValid_run 0 a b _).trans ((spec_IntervalValid_ceq 0 a b _).trans ?_))), h⟩
    rfl
  · cases h

def Γ_spec_IntervalValid : FuncId → Option Smr := Γc 99 spec_IntervalValid_sm Γ_spec_KeyValid
theorem Γ_spec_IntervalValid_ok : ∀ f s, Γ_spec_IntervalValid f = some s → SmrOK Try.prog f s := Γc_ok spec_IntervalValid_ok Γ_spec_KeyValid_ok


/- impl.lettersOnly -/

def impl_lettersOnly_self (bd : Nat) : Smr := ⟨[false], fun R args mem k => match nilAVs args, mem with
  | [.d (.str s)], [] => chk (decide (s.size < bd)) (k (.d (.bool (letters s))) [])
  | _, _ => none⟩

def impl_lettersOnly_c {R : Type} (bd : Nat) (N : Nat) (s : ByteArray) (k : AV → List AB → Option R) : Option R :=
  br (decide (s = (⟨#[]⟩ : ByteArray)))
  (k (.d (.bool true)) [])
  (getB s 0 fun c1 =>
   br (decide (c1 ≥ 97))
   (getB s 0 fun c2 =>
    br (decide (c2 ≤ 122))
    (chk (decide (1 ≤ (s.size : Int)) && decide ((s.size : Int) ≤ (s.size : Int)))
     (chk (decide ((s.extract 1 ((s.size : Int).toNat)).size < bd))
      (k (.d (.bool (letters (s.extract 1 ((s.size : Int).toNat))))) [])))
    (k (.d (.bool false)) []))
   (k (.d (.bool false)) []))

def impl_lettersOnly_C (bd : Nat) (N : Nat) : CC := ⟨(Γc 112 (impl_lettersOnly_self bd) Γ_spec_IntervalValid), Λ0, Δ0, Μ0⟩

theorem impl_lettersOnly_C_Γ (bd : Nat) (hself : SmrOK Try.prog 112 (impl_lettersOnly_self bd)) (N : Nat) : ∀ f s, (impl_lettersOnly_C bd N).Γ f = some s → SmrOK Try.prog f s := (Γc_ok hself Γ_spec_IntervalValid_ok)

theorem impl_lettersOnly_C_Λ (bd : Nat) (hself : SmrOK Try.prog 112 (impl_lettersOnly_self bd)) (N : Nat) : ∀ c, Try.f112.body = some c → ∀ b ∈ loopsIn c, ∀ s, (impl_lettersOnly_C bd N).Λ (lid b) = some s → LOK Try.prog Try.f112.ntmps 0 b s :=
  LOKs_ofF (bs := []) (by kernel_rfl) LOKs_n

theorem impl_lettersOnly_run {R : Type} (bd : Nat) (N : Nat) (s : ByteArray) (k : AV → List AB → Option R) :
    cfunN tt (impl_lettersOnly_C bd N) Try.f112 0 [.d (.str s)] [] k = impl_lettersOnly_c bd N s k := by kernel_rfl

theorem impl_lettersOnly_ceq {R : Type} (bd : Nat) (N : Nat) (s : ByteArray) (k : AV → List AB → Option R) (hbd : s.size ≤ bd) :
    impl_lettersOnly_c bd N s k = k (.d (.bool (letters s))) [] := by
  obtain ⟨⟨l⟩⟩ := s
  simp only [impl_lettersOnly_c]
  cases l with
  | nil => rfl
  | cons c r =>
    have h0 : decide ((⟨(c :: r).toArray⟩ : ByteArray) = ⟨#[]⟩) = false := decide_eq_false (by rw [show (⟨#[]⟩ : ByteArray) = ⟨([] : List UInt8).toArray⟩ from rfl, mk_inj]; simp)
    have hs : (ByteArray.mk (c :: r).toArray).size = r.length + 1 := rfl
    have hb : (r.length + 1 : Nat) ≤ bd := by rw [← hs]; exact hbd
    have h2 : ((r.length + 1 : Nat) : Int).toNat = r.length + 1 := by omega
    rw [h0, br_f, getB_0 (by rw [hs]; omega), getB_0 (by rw [hs]; omega), hs, h2, extract_tail, size_mk, letters_cons, bAt_mk]
    simp only [List.getElem?_cons_zero, Option.getD_some]
    rw [decide_eq_true (show (r.length < bd) by omega)]
    rw [show (decide ((1 : Int) ≤ ((r.length + 1 : Nat) : Int)) && decide (((r.length + 1 : Nat) : Int) ≤ ((r.length + 1 : Nat) : Int))) = true by simp; omega]
    simp only [chk, br_kb]
    congr 3
    cases decide ((c.toNat : Int) ≥ 97) <;> cases decide ((c.toNat : Int) ≤ 122) <;> grind
theorem impl_lettersOnly_self_step (bd : Nat) (hself : SmrOK Try.prog 112 (impl_lettersOnly_self bd)) : SmrOK Try.prog 112 (impl_lettersOnly_self (bd + 1)) := by
  intro R args mem k r h
  simp only [impl_lettersOnly_self] at h
  generalize hA : nilAVs args = args' at h
  split at h
  · rename_i s
    obtain ⟨hbd, h1⟩ := chk_eq h
    have hbd := of_decide_eq_true hbd
    replace h := h1
    refine ⟨_, _, Spec.nl hA (spec_of_run tt_ok mixed (impl_lettersOnly_C_Γ bd hself 0) Try.func112 (by kernel_rfl) (mem := []) (Nat.le_of_ble_eq_true (by kernel_rfl)) (impl_lettersOnly_C_Λ bd hself 0) ((impl_lettersOnly_run bd 0 s _).trans ((impl_lettersOnly_ceq bd 0 s _ (by omega)).trans ?_))), h⟩
    rfl
  · cases h

theorem impl_lettersOnly_self_ok : ∀ bd, SmrOK Try.prog 112 (impl_lettersOnly_self bd)
  | 0 => by
    intro R args mem k r h
    simp only [impl_lettersOnly_self] at h
    generalize hA : nilAVs args = args' at h
    split at h
    · rename_i s
      obtain ⟨hbd, h1⟩ := chk_eq h
      exact absurd (of_decide_eq_true hbd) (Nat.not_lt_zero _)
    · cases h
  | bd + 1 => impl_lettersOnly_self_step bd (impl_lettersOnly_self_ok bd)

def impl_lettersOnly_sm : Smr := ⟨[false], fun R args mem k => match nilAVs args, mem with
  | [.d (.str s)], [] => k (.d (.bool (letters s))) []
  | _, _ => none⟩

theorem impl_lettersOnly_ok : SmrOK Try.prog 112 impl_lettersOnly_sm := by
  intro R args mem k r h
  simp only [impl_lettersOnly_sm] at h
  generalize hA : nilAVs args = args' at h
  split at h
  · rename_i s
    exact impl_lettersOnly_self_ok (s.size + 1) R _ _ k r (by simp only [impl_lettersOnly_self, hA, decide_eq_true (Nat.lt_succ_self (s.size)), chk]; exact h)
  · cases h

def Γ_impl_lettersOnly : FuncId → Option Smr := Γc 112 impl_lettersOnly_sm Γ_spec_IntervalValid
theorem Γ_impl_lettersOnly_ok : ∀ f s, Γ_impl_lettersOnly f = some s → SmrOK Try.prog f s := Γc_ok impl_lettersOnly_ok Γ_spec_IntervalValid_ok


/- impl.KeyValid -/

def impl_KeyValid_c {R : Type} (N : Nat) (s : ByteArray) (k : AV → List AB → Option R) : Option R :=
  br (decide ((s.size : Int) < 1))
  (k (.d (.bool false)) [])
  (br (decide ((s.size : Int) > 4))
   (k (.d (.bool false)) [])
   (k (.d (.bool (letters s))) []))

def impl_KeyValid_C (N : Nat) : CC := ⟨Γ_impl_lettersOnly, Λ0, Δ0, Μ0⟩

theorem impl_KeyValid_C_Γ (N : Nat) : ∀ f s, (impl_KeyValid_C N).Γ f = some s → SmrOK Try.prog f s := Γ_impl_lettersOnly_ok

theorem impl_KeyValid_C_Λ (N : Nat) : ∀ c, Try.f73.body = some c → ∀ b ∈ loopsIn c, ∀ s, (impl_KeyValid_C N).Λ (lid b) = some s → LOK Try.prog Try.f73.ntmps 0 b s :=
  LOKs_ofF (bs := []) (by kernel_rfl) LOKs_n

theorem impl_KeyValid_run {R : Type} (N : Nat) (s : ByteArray) (k : AV → List AB → Option R) :
    cfunN tt (impl_KeyValid_C N) Try.f73 0 [.d (.str s)] [] k = impl_KeyValid_c N s k := by kernel_rfl

theorem impl_KeyValid_ceq {R : Type} (N : Nat) (s : ByteArray) (k : AV → List AB → Option R) :
    impl_KeyValid_c N s k = k (.d (.bool (keyOk s))) [] := by
  simp only [impl_KeyValid_c, keyOk, br_kb]
  congr 3
  by_cases h1 : 1 ≤ s.size <;> by_cases h2 : s.size ≤ 4 <;> grind
def impl_KeyValid_sm : Smr := ⟨[false], fun R args mem k => match nilAVs args, mem with
  | [.d (.str s)], [] => k (.d (.bool (keyOk s))) []
  | _, _ => none⟩

theorem impl_KeyValid_ok : SmrOK Try.prog 73 impl_KeyValid_sm := by
  intro R args mem k r h
  simp only [impl_KeyValid_sm] at h
  generalize hA : nilAVs args = args' at h
  split at h
  · rename_i s
    refine ⟨_, _, Spec.nl hA (spec_of_run tt_ok mixed (impl_KeyValid_C_Γ 0) Try.func73 (by kernel_rfl) (mem := []) (Nat.le_of_ble_eq_true (by kernel_rfl)) (impl_KeyValid_C_Λ 0) ((impl_KeyValid_run 0 s _).trans ((impl_KeyValid_ceq 0 s _).trans ?_))), h⟩
    rfl
  · cases h

def Γ_impl_KeyValid : FuncId → Option Smr := Γc 73 impl_KeyValid_sm Γ_impl_lettersOnly
theorem Γ_impl_KeyValid_ok : ∀ f s, Γ_impl_KeyValid f = some s → SmrOK Try.prog f s := Γc_ok impl_KeyValid_ok Γ_impl_lettersOnly_ok


/- impl.lowestKey -/

def impl_lowestKey_c {R : Type} (N : Nat) (a : ByteArray) (b : ByteArray) (k : AV → List AB → Option R) : Option R :=
  br (decide (a = (⟨#[]⟩ : ByteArray)))
  (k (.d (.str (⟨#[97]⟩ : ByteArray))) [])
  (k (.d (.str a)) [])

def impl_lowestKey_C (N : Nat) : CC := ⟨Γ_impl_KeyValid, Λ0, Δ0, Μ0⟩

theorem impl_lowestKey_C_Γ (N : Nat) : ∀ f s, (impl_lowestKey_C N).Γ f = some s → SmrOK Try.prog f s := Γ_impl_KeyValid_ok

theorem impl_lowestKey_C_Λ (N : Nat) : ∀ c, Try.f108.body = some c → ∀ b ∈ loopsIn c, ∀ s, (impl_lowestKey_C N).Λ (lid b) = some s → LOK Try.prog Try.f108.ntmps 0 b s :=
  LOKs_ofF (bs := []) (by kernel_rfl) LOKs_n

theorem impl_lowestKey_run {R : Type} (N : Nat) (a : ByteArray) (b : ByteArray) (k : AV → List AB → Option R) :
    cfunN tt (impl_lowestKey_C N) Try.f108 0 [.agg [.d (.str a), .d (.str b)]] [] k = impl_lowestKey_c N a b k := by kernel_rfl

theorem impl_lowestKey_ceq {R : Type} (N : Nat) (a : ByteArray) (b : ByteArray) (k : AV → List AB → Option R) :
    impl_lowestKey_c N a b k = k (.d (.str (if a = ⟨#[]⟩ then ⟨#[97]⟩ else a))) [] := by
  simp only [impl_lowestKey_c]
  by_cases h : a = ⟨#[]⟩ <;> simp [h, br]
def impl_lowestKey_sm : Smr := ⟨[false], fun R args mem k => match nilAVs args, mem with
  | [.agg [.d (.str a), .d (.str b)]], [] => k (.d (.str (if a = ⟨#[]⟩ then ⟨#[97]⟩ else a))) []
  | _, _ => none⟩

theorem impl_lowestKey_ok : SmrOK Try.prog 108 impl_lowestKey_sm := by
  intro R args mem k r h
  simp only [impl_lowestKey_sm] at h
  generalize hA : nilAVs args = args' at h
  split at h
  · rename_i a b
    refine ⟨_, _, Spec.nl hA (spec_of_run tt_ok mixed (impl_lowestKey_C_Γ 0) Try.func108 (by kernel_rfl) (mem := []) (Nat.le_of_ble_eq_true (by kernel_rfl)) (impl_lowestKey_C_Λ 0) ((impl_lowestKey_run 0 a b _).trans ((impl_lowestKey_ceq 0 a b _).trans ?_))), h⟩
    rfl
  · cases h

def Γ_impl_lowestKey : FuncId → Option Smr := Γc 108 impl_lowestKey_sm Γ_impl_KeyValid
theorem Γ_impl_lowestKey_ok : ∀ f s, Γ_impl_lowestKey f = some s → SmrOK Try.prog f s := Γc_ok impl_lowestKey_ok Γ_impl_KeyValid_ok


/- impl.IntervalValid -/

def impl_IntervalValid_c {R : Type} (N : Nat) (a : ByteArray) (b : ByteArray) (k : AV → List AB → Option R) : Option R :=
  br (!(decide (a = (⟨#[]⟩ : ByteArray))))
  (br (!(keyOk a))
   (k (.d (.bool false)) [])
   (br (!(decide (b = (⟨#[]⟩ : ByteArray))))
    (br (!(keyOk b))
     (k (.d (.bool false)) [])
     (br (decide (b = (⟨#[]⟩ : ByteArray)))
      (k (.d (.bool true)) [])
      (k (.d (.bool (Op.bytesLess (if a = ⟨#[]⟩ then ⟨#[97]⟩ else a).toList b.toList))) [])))
    (br (decide (b = (⟨#[]⟩ : ByteArray)))
     (k (.d (.bool true)) [])
     (k (.d (.bool (Op.bytesLess (if a = ⟨#[]⟩ then ⟨#[97]⟩ else a).toList b.toList))) []))))
  (br (!(decide (b = (⟨#[]⟩ : ByteArray))))
   (br (!(keyOk b))
    (k (.d (.bool false)) [])
    (br (decide (b = (⟨#[]⟩ : ByteArray)))
     (k (.d (.bool true)) [])
     (k (.d (.bool (Op.bytesLess (if a = ⟨#[]⟩ then ⟨#[97]⟩ else a).toList b.toList))) [])))
   (br (decide (b = (⟨#[]⟩ : ByteArray)))
    (k (.d (.bool true)) [])
    (k (.d (.bool (Op.bytesLess (if a = ⟨#[]⟩ then ⟨#[97]⟩ else a).toList b.toList))) [])))

def impl_IntervalValid_dr3 : List DI := [⟨0, 0, [], [], 1⟩, ⟨1, 1, [], [], 1⟩, ⟨2, 3, [], [], 1⟩, ⟨3, 7, [], [], 1⟩, ⟨4, 15, [29, 30], [], 1⟩, ⟨5, 31, [29, 30], [], 0⟩, ⟨6, 15, [27, 28], [], 1⟩, ⟨7, 79, [27, 28], [], 1⟩, ⟨8, 255, [], [], 1⟩, ⟨9, 511, [], [], 1⟩, ⟨10, 1023, [], [], 1⟩]

def impl_IntervalValid_C (N : Nat) : CC := ⟨Γ_impl_lowestKey, Λ0, (Δc 3 impl_IntervalValid_dr3 Δ0), Μ0⟩

theorem impl_IntervalValid_C_Γ (N : Nat) : ∀ f s, (impl_IntervalValid_C N).Γ f = some s → SmrOK Try.prog f s := Γ_impl_lowestKey_ok

theorem impl_IntervalValid_C_Λ (N : Nat) : ∀ c, Try.f64.body = some c → ∀ b ∈ loopsIn c, ∀ s, (impl_IntervalValid_C N).Λ (lid b) = some s → LOK Try.prog Try.f64.ntmps 0 b s :=
  LOKs_ofF (bs := []) (by kernel_rfl) LOKs_n

theorem impl_IntervalValid_run {R : Type} (N : Nat) (a : ByteArray) (b : ByteArray) (k : AV → List AB → Option R) :
    cfunN tt (impl_IntervalValid_C N) Try.f64 0 [.agg [.d (.str a), .d (.str b)]] [] k = impl_IntervalValid_c N a b k := by kernel_rfl

theorem impl_IntervalValid_ceq {R : Type} (N : Nat) (a : ByteArray) (b : ByteArray) (k : AV → List AB → Option R) :
    impl_IntervalValid_c N a b k = k (.d (.bool (ivOk ⟨a, b⟩))) [] := by
  simp only [impl_IntervalValid_c, br_kb, br_not, ivOk, less]
  congr 3
  by_cases ha : a = ⟨#[]⟩ <;> by_cases hb : b = ⟨#[]⟩ <;> cases h1 : keyOk a <;> cases h2 : keyOk b <;> simp [ha, hb]
def impl_IntervalValid_sm : Smr := ⟨[false], fun R args mem k => match nilAVs args, mem with
  | [.agg [.d (.str a), .d (.str b)]], [] => k (.d (.bool (ivOk ⟨a, b⟩))) []
  | _, _ => none⟩

theorem impl_IntervalValid_ok : SmrOK Try.prog 64 impl_IntervalValid_sm := by
  intro R args mem k r h
  simp only [impl_IntervalValid_sm] at h
  generalize hA : nilAVs args = args' at h
  split at h
  · rename_i a b
    refine ⟨_, _, Spec.nl hA (spec_of_run tt_ok mixed (impl_IntervalValid_C_Γ 0) Try.func64 (by kernel_rfl) (mem := []) (Nat.le_of_ble_eq_true (by kernel_rfl)) (impl_IntervalValid_C_Λ 0) ((impl_IntervalValid_run 0 a b _).trans ((impl_IntervalValid_ceq 0 a b _).trans ?_))), h⟩
    rfl
  · cases h

def Γ_impl_IntervalValid : FuncId → Option Smr := Γc 64 impl_IntervalValid_sm Γ_impl_lowestKey
theorem Γ_impl_IntervalValid_ok : ∀ f s, Γ_impl_IntervalValid f = some s → SmrOK Try.prog f s := Γc_ok impl_IntervalValid_ok Γ_impl_lowestKey_ok


/- spec.IntervalJoin -/

def spec_IntervalJoin_c {R : Type} (N : Nat) (a : ByteArray) (b : ByteArray) (c : ByteArray) (d : ByteArray) (k : AV → List AB → Option R) : Option R :=
  br (!(ivOk ⟨a, b⟩))
  (k (.tup [.agg [.d (.str ⟨#[]⟩), .d (.str ⟨#[]⟩)], .d (.bool false)]) [])
  (br (!(ivOk ⟨c, d⟩))
   (k (.tup [.agg [.d (.str ⟨#[]⟩), .d (.str ⟨#[]⟩)], .d (.bool false)]) [])
   (br (decide (b = (⟨#[]⟩ : ByteArray)))
    (k (.tup [.agg [.d (.str ⟨#[]⟩), .d (.str ⟨#[]⟩)], .d (.bool false)]) [])
    (br (!(decide (b = c)))
     (k (.tup [.agg [.d (.str ⟨#[]⟩), .d (.str ⟨#[]⟩)], .d (.bool false)]) [])
     (k (.tup [.agg [.d (.str a), .d (.str d)], .d (.bool true)]) []))))

def spec_IntervalJoin_C (N : Nat) : CC := ⟨Γ_impl_IntervalValid, Λ0, Δ0, Μ0⟩

theorem spec_IntervalJoin_C_Γ (N : Nat) : ∀ f s, (spec_IntervalJoin_C N).Γ f = some s → SmrOK Try.prog f s := Γ_impl_IntervalValid_ok

theorem spec_IntervalJoin_C_Λ (N : Nat) : ∀ c, Try.f80.body = some c → ∀ b ∈ loopsIn c, ∀ s, (spec_IntervalJoin_C N).Λ (lid b) = some s → LOK Try.prog Try.f80.ntmps 0 b s :=
  LOKs_ofF (bs := []) (by kernel_rfl) LOKs_n

theorem spec_IntervalJoin_run {R : Type} (N : Nat) (a : ByteArray) (b : ByteArray) (c : ByteArray) (d : ByteArray) (k : AV → List AB → Option R) :
    cfunN tt (spec_IntervalJoin_C N) Try.f80 0 [.agg [.d (.str a), .d (.str b)], .agg [.d (.str c), .d (.str d)]] [] k = spec_IntervalJoin_c N a b c d k := by kernel_rfl

theorem spec_IntervalJoin_ceq {R : Type} (N : Nat) (a : ByteArray) (b : ByteArray) (c : ByteArray) (d : ByteArray) (k : AV → List AB → Option R) :
    spec_IntervalJoin_c N a b c d k = br (joinOk ⟨a, b⟩ ⟨c, d⟩) (k (.tup [.agg [.d (.str a), .d (.str d)], .d (.bool true)]) []) (k (.tup [.agg [.d (.str ⟨#[]⟩), .d (.str ⟨#[]⟩)], .d (.bool false)]) []) := by
  simp only [spec_IntervalJoin_c, joinOk, br_not, br_and]
def spec_IntervalJoin_sm : Smr := ⟨[false, false], fun R args mem k => match nilAVs args, mem with
  | [.agg [.d (.str a), .d (.str b)], .agg [.d (.str c), .d (.str d)]], [] => br (joinOk ⟨a, b⟩ ⟨c, d⟩) (k (.tup [.agg [.d (.str a), .d (.str d)], .d (.bool true)]) []) (k (.tup [.agg [.d (.str ⟨#[]⟩), .d (.str ⟨#[]⟩)], .d (.bool false)]) [])
  | _, _ => none⟩

theorem spec_IntervalJoin_ok : SmrOK Try.prog 80 spec_IntervalJoin_sm := by
  intro R args mem k r h
  simp only [spec_IntervalJoin_sm] at h
  generalize hA : nilAVs args = args' at h
  split at h
  · rename_i a b c d
    rcases br_eq h with ⟨hb0, h⟩ | ⟨hb0, h⟩
    · refine ⟨_, _, Spec.nl hA (spec_of_run tt_ok mixed (spec_IntervalJoin_C_Γ 0) Try.func80 (by kernel_rfl) (mem := []) (Nat.le_of_ble_eq_true (by kernel_rfl)) (spec_IntervalJoin_C_Λ 0) ((spec_IntervalJoin_run 0 a b c d _).trans ((spec_IntervalJoin_ceq 0 a b c d _).trans ?_))), h⟩
      simp only [br, hb0]
    · refine ⟨_, _, Spec.nl hA (spec_of_run tt_ok mixed (spec_IntervalJoin_C_Γ 0) Try.func80 (by kernel_rfl) (mem := []) (Nat.le_of_ble_eq_true (by kernel_rfl)) (spec_IntervalJoin_C_Λ 0) ((spec_IntervalJoin_run 0 a b c d _).trans ((spec_IntervalJoin_ceq 0 a b c d _).trans ?_))), h⟩
      simp only [br, hb0]
  · cases h

def Γ_spec_IntervalJoin : FuncId → Option Smr := Γc 80 spec_IntervalJoin_sm Γ_impl_IntervalValid
theorem Γ_spec_IntervalJoin_ok : ∀ f s, Γ_spec_IntervalJoin f = some s → SmrOK Try.prog f s := Γc_ok spec_IntervalJoin_ok Γ_impl_IntervalValid_ok


/- impl.IntervalJoin -/

def impl_IntervalJoin_c {R : Type} (N : Nat) (a : ByteArray) (b : ByteArray) (c : ByteArray) (d : ByteArray) (k : AV → List AB → Option R) : Option R :=
  br (!(ivOk ⟨a, b⟩))
  (k (.tup [.agg [.d (.str ⟨#[]⟩), .d (.str ⟨#[]⟩)], .d (.bool false)]) [])
  (br (!(ivOk ⟨c, d⟩))
   (k (.tup [.agg [.d (.str ⟨#[]⟩), .d (.str ⟨#[]⟩)], .d (.bool false)]) [])
   (br (decide (b = (⟨#[]⟩ : ByteArray)))
    (k (.tup [.agg [.d (.str ⟨#[]⟩), .d (.str ⟨#[]⟩)], .d (.bool false)]) [])
    (br (!(decide (b = c)))
     (k (.tup [.agg [.d (.str ⟨#[]⟩), .d (.str ⟨#[]⟩)], .d (.bool false)]) [])
     (k (.tup [.agg [.d (.str a), .d (.str d)], .d (.bool true)]) []))))

def impl_IntervalJoin_C (N : Nat) : CC := ⟨Γ_spec_IntervalJoin, Λ0, Δ0, Μ0⟩

theorem impl_IntervalJoin_C_Γ (N : Nat) : ∀ f s, (impl_IntervalJoin_C N).Γ f = some s → SmrOK Try.prog f s := Γ_spec_IntervalJoin_ok

theorem impl_IntervalJoin_C_Λ (N : Nat) : ∀ c, Try.f122.body = some c → ∀ b ∈ loopsIn c, ∀ s, (impl_IntervalJoin_C N).Λ (lid b) = some s → LOK Try.prog Try.f122.ntmps 0 b s :=
  LOKs_ofF (bs := []) (by kernel_rfl) LOKs_n

theorem impl_IntervalJoin_run {R : Type} (N : Nat) (a : ByteArray) (b : ByteArray) (c : ByteArray) (d : ByteArray) (k : AV → List AB → Option R) :
    cfunN tt (impl_IntervalJoin_C N) Try.f122 0 [.agg [.d (.str a), .d (.str b)], .agg [.d (.str c), .d (.str d)]] [] k = impl_IntervalJoin_c N a b c d k := by kernel_rfl

theorem impl_IntervalJoin_ceq {R : Type} (N : Nat) (a : ByteArray) (b : ByteArray) (c : ByteArray) (d : ByteArray) (k : AV → List AB → Option R) :
    impl_IntervalJoin_c N a b c d k = br (joinOk ⟨a, b⟩ ⟨c, d⟩) (k (.tup [.agg [.d (.str a), .d (.str d)], .d (.bool true)]) []) (k (.tup [.agg [.d (.str ⟨#[]⟩), .d (.str ⟨#[]⟩)], .d (.bool false)]) []) := by
  simp only [impl_IntervalJoin_c, joinOk, br_not, br_and]
def impl_IntervalJoin_sm : Smr := ⟨[false, false], fun R args mem k => match nilAVs args, mem with
  | [.agg [.d (.str a), .d (.str b)], .agg [.d (.str c), .d (.str d)]], [] => br (joinOk ⟨a, b⟩ ⟨c, d⟩) (k (.tup [.agg [.d (.str a), .d (.str d)], .d (.bool true)]) []) (k (.tup [.agg [.d (.str ⟨#[]⟩), .d (.str ⟨#[]⟩)], .d (.bool false)]) [])
  | _, _ => none⟩

theorem impl_IntervalJoin_ok : SmrOK Try.prog 122 impl_IntervalJoin_sm := by
  intro R args mem k r h
  simp only [impl_IntervalJoin_sm] at h
  generalize hA : nilAVs args = args' at h
  split at h
  · rename_i a b c d
    rcases br_eq h with ⟨hb0, h⟩ | ⟨hb0, h⟩
    · refine ⟨_, _, Spec.nl hA (spec_of_run tt_ok mixed (impl_IntervalJoin_C_Γ 0) Try.func122 (by kernel_rfl) (mem := []) (Nat.le_of_ble_eq_true (by kernel_rfl)) (impl_IntervalJoin_C_Λ 0) ((impl_IntervalJoin_run 0 a b c d _).trans ((impl_IntervalJoin_ceq 0 a b c d _).trans ?_))), h⟩
      simp only [br, hb0]
    · refine ⟨_, _, Spec.nl hA (spec_of_run tt_ok mixed (impl_IntervalJoin_C_Γ 0) Try.func122 (by kernel_rfl) (mem := []) (Nat.le_of_ble_eq_true (by kernel_rfl)) (impl_IntervalJoin_C_Λ 0) ((impl_IntervalJoin_run 0 a b c d _).trans ((impl_IntervalJoin_ceq 0 a b c d _).trans ?_))), h⟩
      simp only [br, hb0]
  · cases h

def Γ_impl_IntervalJoin : FuncId → Option Smr := Γc 122 impl_IntervalJoin_sm Γ_spec_IntervalJoin
theorem Γ_impl_IntervalJoin_ok : ∀ f s, Γ_impl_IntervalJoin f = some s → SmrOK Try.prog f s := Γc_ok impl_IntervalJoin_ok Γ_spec_IntervalJoin_ok


/- spec.IntervalCut -/

def spec_IntervalCut_c {R : Type} (N : Nat) (a : ByteArray) (b : ByteArray) (key : ByteArray) (k : AV → List AB → Option R) : Option R :=
  br (!(ivOk ⟨a, b⟩))
  (k (.tup [.agg [.d (.str ⟨#[]⟩), .d (.str ⟨#[]⟩)], .agg [.d (.str ⟨#[]⟩), .d (.str ⟨#[]⟩)], .d (.bool false)]) [])
  (br (!(keyOk key))
   (k (.tup [.agg [.d (.str ⟨#[]⟩), .d (.str ⟨#[]⟩)], .agg [.d (.str ⟨#[]⟩), .d (.str ⟨#[]⟩)], .d (.bool false)]) [])
   (br (!(ivOk ⟨a, key⟩))
    (k (.tup [.agg [.d (.str ⟨#[]⟩), .d (.str ⟨#[]⟩)], .agg [.d (.str ⟨#[]⟩), .d (.str ⟨#[]⟩)], .d (.bool false)]) [])
    (br (!(ivOk ⟨key, b⟩))
     (k (.tup [.agg [.d (.str ⟨#[]⟩), .d (.str ⟨#[]⟩)], .agg [.d (.str ⟨#[]⟩), .d (.str ⟨#[]⟩)], .d (.bool false)]) [])
     (k (.tup [.agg [.d (.str a), .d (.str key)], .agg [.d (.str key), .d (.str b)], .d (.bool true)]) []))))

def spec_IntervalCut_dr5 : List DI := [⟨0, 0, [38], [], 0⟩, ⟨1, 0, [37], [1], 0⟩, ⟨2, 1, [38], [], 0⟩, ⟨3, 7, [], [], 0⟩, ⟨4, 15, [], [], 0⟩]

def spec_IntervalCut_C (N : Nat) : CC := ⟨Γ_impl_IntervalJoin, Λ0, (Δc 5 spec_IntervalCut_dr5 Δ0), Μ0⟩

theorem spec_IntervalCut_C_Γ (N : Nat) : ∀ f s, (spec_IntervalCut_C N).Γ f = some s → SmrOK Try.prog f s := Γ_impl_IntervalJoin_ok

theorem spec_IntervalCut_C_Λ (N : Nat) : ∀ c, Try.f79.body = some c → ∀ b ∈ loopsIn c, ∀ s, (spec_IntervalCut_C N).Λ (lid b) = some s → LOK Try.prog Try.f79.ntmps 0 b s :=
  LOKs_ofF (bs := []) (by kernel_rfl) LOKs_n

theorem spec_IntervalCut_run {R : Type} (N : Nat) (a : ByteArray) (b : ByteArray) (key : ByteArray) (k : AV → List AB → Option R) :
    cfunN tt (spec_IntervalCut_C N) Try.f79 0 [.agg [.d (.str a), .d (.str b)], .d (.str key)] [] k = spec_IntervalCut_c N a b key k := by kernel_rfl

theorem spec_IntervalCut_ceq {R : Type} (N : Nat) (a : ByteArray) (b : ByteArray) (key : ByteArray) (k : AV → List AB → Option R) :
    spec_IntervalCut_c N a b key k = br (cutOk ⟨a, b⟩ key) (k (.tup [.agg [.d (.str a), .d (.str key)], .agg [.d (.str key), .d (.str b)], .d (.bool true)]) []) (k (.tup [.agg [.d (.str ⟨#[]⟩), .d (.str ⟨#[]⟩)], .agg [.d (.str ⟨#[]⟩), .d (.str ⟨#[]⟩)], .d (.bool false)]) []) := by
  simp only [spec_IntervalCut_c, cutOk, br_not, br_and]
def spec_IntervalCut_sm : Smr := ⟨[false, false], fun R args mem k => match nilAVs args, mem with
  | [.agg [.d (.str a), .d (.str b)], .d (.str key)], [] => br (cutOk ⟨a, b⟩ key) (k (.tup [.agg [.d (.str a), .d (.str key)], .agg [.d (.str key), .d (.str b)], .d (.bool true)]) []) (k (.tup [.agg [.d (.str ⟨#[]⟩), .d (.str ⟨#[]⟩)], .agg [.d (.str ⟨#[]⟩), .d (.str ⟨#[]⟩)], .d (.bool false)]) [])
  | _, _ => none⟩

theorem spec_IntervalCut_ok : SmrOK Try.prog 79 spec_IntervalCut_sm := by
  intro R args mem k r h
  simp only [spec_IntervalCut_sm] at h
  generalize hA : nilAVs args = args' at h
  split at h
  · rename_i a b key
    rcases br_eq h with ⟨hb0, h⟩ | ⟨hb0, h⟩
    · refine ⟨_, _, Spec.nl hA (spec_of_run tt_ok mixed (spec_IntervalCut_C_Γ 0) Try.func79 (by kernel_rfl) (mem := []) (Nat.le_of_ble_eq_true (by kernel_rfl)) (spec_IntervalCut_C_Λ 0) ((spec_IntervalCut_run 0 a b key _).trans ((spec_IntervalCut_ceq 0 a b key _).trans ?_))), h⟩
      simp only [br, hb0]
    · refine ⟨_, _, Spec.nl hA (spec_of_run tt_ok mixed (spec_IntervalCut_C_Γ 0) Try.func79 (by kernel_rfl) (mem := []) (Nat.le_of_ble_eq_true (by kernel_rfl)) (spec_IntervalCut_C_Λ 0) ((spec_IntervalCut_run 0 a b key _).trans ((spec_IntervalCut_ceq 0 a b key _).trans ?_))), h⟩
      simp only [br, hb0]
  · cases h

def Γ_spec_IntervalCut : FuncId → Option Smr := Γc 79 spec_IntervalCut_sm Γ_impl_IntervalJoin
theorem Γ_spec_IntervalCut_ok : ∀ f s, Γ_spec_IntervalCut f = some s → SmrOK Try.prog f s := Γc_ok spec_IntervalCut_ok Γ_impl_IntervalJoin_ok


/- impl.IntervalCut -/

def impl_IntervalCut_c {R : Type} (N : Nat) (a : ByteArray) (b : ByteArray) (key : ByteArray) (k : AV → List AB → Option R) : Option R :=
  br (!(ivOk ⟨a, b⟩))
  (k (.tup [.agg [.d (.str ⟨#[]⟩), .d (.str ⟨#[]⟩)], .agg [.d (.str ⟨#[]⟩), .d (.str ⟨#[]⟩)], .d (.bool false)]) [])
  (br (!(keyOk key))
   (k (.tup [.agg [.d (.str ⟨#[]⟩), .d (.str ⟨#[]⟩)], .agg [.d (.str ⟨#[]⟩), .d (.str ⟨#[]⟩)], .d (.bool false)]) [])
   (br (!(ivOk ⟨a, key⟩))
    (k (.tup [.agg [.d (.str ⟨#[]⟩), .d (.str ⟨#[]⟩)], .agg [.d (.str ⟨#[]⟩), .d (.str ⟨#[]⟩)], .d (.bool false)]) [])
    (br (!(ivOk ⟨key, b⟩))
     (k (.tup [.agg [.d (.str ⟨#[]⟩), .d (.str ⟨#[]⟩)], .agg [.d (.str ⟨#[]⟩), .d (.str ⟨#[]⟩)], .d (.bool false)]) [])
     (k (.tup [.agg [.d (.str a), .d (.str key)], .agg [.d (.str key), .d (.str b)], .d (.bool true)]) []))))

def impl_IntervalCut_dr7 : List DI := [⟨0, 0, [38], [], 0⟩, ⟨1, 0, [37], [1], 0⟩, ⟨2, 1, [38], [], 0⟩, ⟨3, 7, [], [], 0⟩, ⟨4, 15, [], [], 0⟩]

def impl_IntervalCut_C (N : Nat) : CC := ⟨Γ_spec_IntervalCut, Λ0, (Δc 7 impl_IntervalCut_dr7 Δ0), Μ0⟩

theorem impl_IntervalCut_C_Γ (N : Nat) : ∀ f s, (impl_IntervalCut_C N).Γ f = some s → SmrOK Try.prog f s := Γ_spec_IntervalCut_ok

theorem impl_IntervalCut_C_Λ (N : Nat) : ∀ c, Try.f68.body = some c → ∀ b ∈ loopsIn c, ∀ s, (impl_IntervalCut_C N).Λ (lid b) = some s → LOK Try.prog Try.f68.ntmps 0 b s :=
  LOKs_ofF (bs := []) (by kernel_rfl) LOKs_n

theorem impl_IntervalCut_run {R : Type} (N : Nat) (a : ByteArray) (b : ByteArray) (key : ByteArray) (k : AV → List AB → Option R) :
    cfunN tt (impl_IntervalCut_C N) Try.f68 0 [.agg [.d (.str a), .d (.str b)], .d (.str key)] [] k = impl_IntervalCut_c N a b key k := by kernel_rfl

theorem impl_IntervalCut_ceq {R : Type} (N : Nat) (a : ByteArray) (b : ByteArray) (key : ByteArray) (k : AV → List AB → Option R) :
    impl_IntervalCut_c N a b key k = br (cutOk ⟨a, b⟩ key) (k (.tup [.agg [.d (.str a), .d (.str key)], .agg [.d (.str key), .d (.str b)], .d (.bool true)]) []) (k (.tup [.agg [.d (.str ⟨#[]⟩), .d (.str ⟨#[]⟩)], .agg [.d (.str ⟨#[]⟩), .d (.str ⟨#[]⟩)], .d (.bool false)]) []) := by
  simp only [impl_IntervalCut_c, cutOk, br_not, br_and]
def impl_IntervalCut_sm : Smr := ⟨[false, false], fun R args mem k => match nilAVs args, mem with
  | [.agg [.d (.str a), .d (.str b)], .d (.str key)], [] => br (cutOk ⟨a, b⟩ key) (k (.tup [.agg [.d (.str a), .d (.str key)], .agg [.d (.str key), .d (.str b)], .d (.bool true)]) []) (k (.tup [.agg [.d (.str ⟨#[]⟩), .d (.str ⟨#[]⟩)], .agg [.d (.str ⟨#[]⟩), .d (.str ⟨#[]⟩)], .d (.bool false)]) [])
  | _, _ => none⟩

theorem impl_IntervalCut_ok : SmrOK Try.prog 68 impl_IntervalCut_sm := by
  intro R args mem k r h
  simp only [impl_IntervalCut_sm] at h
  generalize hA : nilAVs args = args' at h
  split at h
  · rename_i a b key
    rcases br_eq h with ⟨hb0, h⟩ | ⟨hb0, h⟩
    · refine ⟨_, _, Spec.nl hA (spec_of_run tt_ok mixed (impl_IntervalCut_C_Γ 0) Try.func68 (by kernel_rfl) (mem := []) (Nat.le_of_ble_eq_true (by kernel_rfl)) (impl_IntervalCut_C_Λ 0) ((impl_IntervalCut_run 0 a b key _).trans ((impl_IntervalCut_ceq 0 a b key _).trans ?_))), h⟩
      simp only [br, hb0]
    · refine ⟨_, _, Spec.nl hA (spec_of_run tt_ok mixed (impl_IntervalCut_C_Γ 0) Try.func68 (by kernel_rfl) (mem := []) (Nat.le_of_ble_eq_true (by kernel_rfl)) (impl_IntervalCut_C_Λ 0) ((impl_IntervalCut_run 0 a b key _).trans ((impl_IntervalCut_ceq 0 a b key _).trans ?_))), h⟩
      simp only [br, hb0]
  · cases h

def Γ_impl_IntervalCut : FuncId → Option Smr := Γc 68 impl_IntervalCut_sm Γ_spec_IntervalCut
theorem Γ_impl_IntervalCut_ok : ∀ f s, Γ_impl_IntervalCut f = some s → SmrOK Try.prog f s := Γc_ok impl_IntervalCut_ok Γ_spec_IntervalCut_ok

end Go.Proofs.Ytfeiaibdnnhlaaa
