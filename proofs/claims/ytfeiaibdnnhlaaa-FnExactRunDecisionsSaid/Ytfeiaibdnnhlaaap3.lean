import Derived.Test.Ytfeiaibdnnhlaaap2
/- The abstract interpreter, part 16c: regions of which the order is drawn. -/
set_option linter.unusedSectionVars false
set_option linter.unusedVariables false
set_option linter.unusedSimpArgs false
namespace Go.Proofs.Ytfeiaibdnnhlaaa

theorem setB_len (m : List AB) (b : Nat) (x : AB) : (setB m b x).length = max m.length (b + 1) := by
  unfold setB
  split
  · simp; omega
  · simp; omega

theorem get_lk {m : List AB} {i : Nat} (h : i < m.length) : m[i]? = some (lk m i) := by
  simp [lk, List.getD, List.getElem?_eq_getElem h]

theorem ext_lk {m m' : List AB} (h : m.length = m'.length) (hl : ∀ i, lk m i = lk m' i) : m = m' := by
  apply List.ext_getElem?
  intro i
  by_cases hi : i < m.length
  · rw [get_lk hi, get_lk (by omega), hl]
  · rw [List.getElem?_eq_none (by omega), List.getElem?_eq_none (by omega)]

theorem setB_comm (m : List AB) {b c : Nat} (h : b ≠ c) (x y : AB) : setB (setB m b x) c y = setB (setB m c y) b x := by
  apply ext_lk
  · simp only [setB_len]; omega
  · intro i
    simp only [lk_setB]
    by_cases h1 : i = c
    · subst h1; rw [if_pos rfl, if_neg (Ne.symm h), if_pos rfl]
    · rw [if_neg h1]
      by_cases h2 : i = b
      · rw [if_pos h2, if_pos h2]
      · rw [if_neg h2, if_neg h2, if_neg h1]

theorem appW_setB : ∀ (ws : List (Nat × AB)) (m : List AB) {b : Nat} (x : AB), (∀ y ∈ ws, y.1 ≠ b) → appW ws (setB m b x) = setB (appW ws m) b x
  | [], _, _, _, _ => rfl
  | y :: ws, m, b, x, h => by
    show appW ws (setB (setB m b x) y.1 y.2) = setB (appW ws (setB m y.1 y.2)) b x
    rw [setB_comm m (Ne.symm (h y List.mem_cons_self)), appW_setB ws _ x fun z hz => h z (List.mem_cons_of_mem _ hz)]

theorem appW_comm : ∀ (ws ws' : List (Nat × AB)) (m : List AB), (∀ x ∈ ws, ∀ y ∈ ws', x.1 ≠ y.1) → appW ws (appW ws' m) = appW ws' (appW ws m)
  | [], _, _, _ => rfl
  | x :: ws, ws', m, h => by
    show appW ws (setB (appW ws' m) x.1 x.2) = appW ws' (appW ws (setB m x.1 x.2))
    rw [← appW_setB ws' m x.2 (fun y hy => Ne.symm (h x List.mem_cons_self y hy)), appW_comm ws ws' _ fun z hz => h z (List.mem_cons_of_mem _ hz)]

theorem lk_appW_eq : ∀ (ws : List (Nat × AB)) {m m' : List AB} {b : Nat}, lk m b = lk m' b → lk (appW ws m) b = lk (appW ws m') b
  | [], _, _, _, h => h
  | x :: ws, m, m', b, h => by
    show lk (appW ws (setB m x.1 x.2)) b = lk (appW ws (setB m' x.1 x.2)) b
    refine lk_appW_eq ws ?_
    rw [lk_setB, lk_setB, h]

/-- What an operation does. -/
structure Eff where
  dst : Option Tmp
  av : AV
  ws : List (Nat × AB)

def Eff.on (e : Eff) (σ : AS) : AS := σ.app e.dst e.av e.ws

def fo (H : Nat → Bool) : Nat → List Eff → AS → AS
  | _, [], σ => σ
  | i, e :: r, σ => fo H (i + 1) r (cond (H i) (e.on σ) σ)

def indep (e e' : Eff) : Bool :=
  (match e.dst, e'.dst with
    | some a, some b => a != b
    | _, _ => true) && e.ws.all fun x => e'.ws.all fun y => x.1 != y.1

theorem putT_len (l : List AV) (d : Option Tmp) (v : AV) : (putT l d v).length = l.length := by
  cases d <;> simp [putT]

theorem Eff.comm {e e' : Eff} (h : indep e e' = true) (σ : AS) : e.on (e'.on σ) = e'.on (e.on σ) := by
  simp only [indep, Bool.and_eq_true, List.all_eq_true, bne_iff_ne, ne_eq] at h
  obtain ⟨h1, h2⟩ := h
  simp only [Eff.on, AS.app]
  congr 1
  · cases hd : e.dst with
    | none => rfl
    | some a =>
      cases hd' : e'.dst with
      | none => rfl
      | some b =>
        rw [hd, hd'] at h1
        simp only [bne_iff_ne, ne_eq] at h1
        simp only [putT]
        exact List.set_comm _ _ (fun h => h1 h.symm)
  · exact appW_comm _ _ _ fun x hx y hy => h2 x hx y hy

theorem fo_push {H H' : Nat → Bool} {e : Eff} : ∀ (r : List Eff) (s : Nat) (σ : AS), (∀ j, s ≤ j → H' j = H j) → (∀ j e', H (s + j) = true → r[j]? = some e' → indep e e' = true) → e.on (fo H s r σ) = fo H' s r (e.on σ)
  | [], _, _, _, _ => rfl
  | x :: r, s, σ, hH, hi => by
    simp only [fo]
    have ih := fun σ => fo_push (H := H) (H' := H') (e := e) r (s + 1) σ (fun j hj => hH j (by omega)) fun j e' h1 h2 => hi (j + 1) e' (by rwa [show s + (j + 1) = s + 1 + j by omega]) (by simpa using h2)
    rw [ih, hH s (Nat.le_refl _)]
    cases hs : H s with
    | false => rfl
    | true =>
      simp only [cond_true]
      rw [Eff.comm (hi 0 x (by simpa using hs) rfl)]

theorem fo_insert {H : Nat → Bool} {e : Eff} {i : Nat} : ∀ (E : List Eff) (s : Nat) (σ : AS), s ≤ i → E[i - s]? = some e → H i = false → (∀ j e', i < j → H j = true → E[j - s]? = some e' → indep e e' = true) →
    e.on (fo H s E σ) = fo (fun j => H j || j == i) s E σ
  | [], s, σ, _, he, _, _ => by simp at he
  | x :: r, s, σ, hs, he, hH, hi => by
    simp only [fo]
    by_cases h : s = i
    · subst h
      rw [Nat.sub_self] at he
      simp only [List.getElem?_cons_zero, Option.some.injEq] at he
      subst he
      rw [hH]
      simp only [cond_false, beq_self_eq_true, Bool.or_true, cond_true]
      refine fo_push r (s + 1) σ (fun j hj => ?_) fun j e' h1 h2 => hi (s + 1 + j) e' (by omega) h1 (by rw [show s + 1 + j - s = j + 1 by omega]; simpa using h2)
      have : (j == s) = false := by simp; omega
      rw [this, Bool.or_false]
    · have : (s == i) = false := by simpa using h
      rw [this, Bool.or_false]
      refine fo_insert r (s + 1) _ (by omega) ?_ hH fun j e' h1 h2 h3 => hi j e' h1 h2 ?_
      · rw [show i - s = (i - (s + 1)) + 1 by omega] at he
        simpa using he
      · rw [show j - s = (j - (s + 1)) + 1 by omega]
        simpa using h3

theorem fo_congr {H G : Nat → Bool} : ∀ (E : List Eff) (s : Nat) (σ : AS), (∀ j, j < E.length → H (s + j) = G (s + j)) → fo H s E σ = fo G s E σ
  | [], _, _, _ => rfl
  | x :: r, s, σ, h => by
    simp only [fo]
    rw [show H s = G s from h 0 (by simp)]
    exact fo_congr r (s + 1) _ fun j hj => by rw [show s + 1 + j = s + (j + 1) by omega]; exact h (j + 1) (by simpa using hj)

theorem fo_t {H G : Nat → Bool} {t : Nat} : ∀ (E : List Eff) (s : Nat) (σ σ' : AS), σ.tmps.length = σ'.tmps.length → σ.tmps[t]? = σ'.tmps[t]? → (∀ j e, E[j]? = some e → H (s + j) ≠ G (s + j) → e.dst ≠ some t) →
    (fo H s E σ).tmps[t]? = (fo G s E σ').tmps[t]?
  | [], _, _, _, _, h, _ => h
  | x :: r, s, σ, σ', hl, h, hd => by
    simp only [fo]
    have len : ∀ (b : Bool) (τ : AS), (cond b (x.on τ) τ).tmps.length = τ.tmps.length := fun b τ => by
      cases b
      · rfl
      · simp [Eff.on, AS.app, putT_len]
    have ne : ∀ (b : Bool) (τ : AS), x.dst ≠ some t → (cond b (x.on τ) τ).tmps[t]? = τ.tmps[t]? := fun b τ hx => by
      cases b
      · rfl
      · simp only [cond_true, Eff.on, AS.app]
        cases hd : x.dst with
        | none => rfl
        | some d =>
          simp only [putT]
          rw [List.getElem?_set_ne]
          exact fun h => hx (by rw [hd, h])
    refine fo_t r (s + 1) _ _ (by rw [len, len, hl]) ?_ fun j e h1 h2 => hd (j + 1) e (by simpa using h1) (by rwa [show s + (j + 1) = s + 1 + j by omega])
    by_cases hb : H s = G s
    · rw [hb]
      cases G s with
      | false => exact h
      | true =>
        simp only [cond_true, Eff.on, AS.app]
        cases x.dst with
        | none => exact h
        | some d =>
          simp only [putT, List.getElem?_set, hl, h]
    · have hx := hd 0 x rfl hb
      rw [ne _ _ hx, ne _ _ hx, h]

theorem fo_m {H G : Nat → Bool} {b : Nat} : ∀ (E : List Eff) (s : Nat) (σ σ' : AS), lk σ.mem b = lk σ'.mem b → (∀ j e, E[j]? = some e → H (s + j) ≠ G (s + j) → ∀ x ∈ e.ws, x.1 ≠ b) →
    lk (fo H s E σ).mem b = lk (fo G s E σ').mem b
  | [], _, _, _, h, _ => h
  | x :: r, s, σ, σ', h, hd => by
    simp only [fo]
    have ne : ∀ (c : Bool) (τ : AS), (∀ y ∈ x.ws, y.1 ≠ b) → lk (cond c (x.on τ) τ).mem b = lk τ.mem b := fun c τ hx => by
      cases c
      · rfl
      · simp only [cond_true, Eff.on, AS.app]; exact lk_appW_ne hx
    refine fo_m r (s + 1) _ _ ?_ fun j e h1 h2 => hd (j + 1) e (by simpa using h1) (by rwa [show s + (j + 1) = s + 1 + j by omega])
    by_cases hb : H s = G s
    · rw [hb]
      cases G s with
      | false => exact h
      | true => simp only [cond_true, Eff.on, AS.app]; exact lk_appW_eq _ h
    · have hx := hd 0 x rfl hb
      rw [ne _ _ hx, ne _ _ hx, h]

/-- What one operation of a drawn region owes. -/
def OpD (P : Program) (tt : TypeId → Option TI) (ops : Array Oper) (ρ : Rd) (nx : Nat) (o : Oper) (e : Eff) : Prop :=
  e.dst = o.dst ∧ match o.guard with
    | none => OpR P tt ρ nx o.op e.av e.ws
    | some (j, want) => ∃ b, guardV ρ ops j = some b ∧ if b = some want then OpR P tt ρ nx o.op e.av e.ws else e.av = .non ∧ e.ws = []

/-- A region whose order is drawn: whatever the order, it does the same. -/
structure DrawOK (P : Program) (tt : TypeId → Option TI) (ops : Array Oper) (σ : AS) (E : List Eff) (pre : Nat → Nat → Bool) : Prop where
  len : E.length = ops.size
  hpre : ∀ i o, ops[i]? = some o → ∀ j, pre i j = true → ∃ e ∈ o.after, Region.binds .any e = true ∧ (j = e.on ∨ pre e.on j = true)
  edge : ∀ i o, ops[i]? = some o → ∀ e ∈ o.after, Region.binds .any e = true → e.on < i
  ind : ∀ i j e e', i < j → E[i]? = some e → E[j]? = some e' → pre j i = false → indep e e' = true
  op : ∀ i o e, ops[i]? = some o → E[i]? = some e → ∃ ρ nx c, 0 < c ∧ (∀ x ∈ e.ws, x.1 < nx + c) ∧
    (∀ d, nx ≤ d → d < nx + c → lk σ.mem d = .fut ∧ ∀ j e', E[j]? = some e' → j ≠ i → pre j i = false → ∀ x ∈ e'.ws, x.1 ≠ d) ∧
    (∀ t a, ρ.t t = some a → (fo (pre i) 0 E σ).rd.t t = some a ∧ ∀ j e', E[j]? = some e' → j ≠ i → pre i j = false → pre j i = false → e'.dst ≠ some t) ∧
    (∀ b x, ρ.m b = some x → (fo (pre i) 0 E σ).rd.m b = some x ∧ ∀ j e', E[j]? = some e' → j ≠ i → pre i j = false → pre j i = false → ∀ y ∈ e'.ws, y.1 ≠ b) ∧
    OpD P tt ops ρ nx o e

theorem filter_len_le {p q : Nat → Bool} (h : ∀ j, q j = true → p j = true) : ∀ (l : List Nat), (l.filter q).length ≤ (l.filter p).length
  | [] => Nat.le_refl _
  | x :: l => by
    have ih := filter_len_le h l
    simp only [List.filter_cons]
    cases hq : q x with
    | true => rw [h x hq]; simpa using ih
    | false =>
      cases p x
      · simpa using ih
      · simp only [Bool.false_eq_true, if_false, if_true, List.length_cons]; omega

theorem filter_len_lt {p q : Nat → Bool} (h : ∀ j, q j = true → p j = true) {i : Nat} (hp : p i = true) (hq : q i = false) : ∀ (l : List Nat), i ∈ l → (l.filter q).length < (l.filter p).length
  | [], hi => by cases hi
  | x :: l, hi => by
    simp only [List.filter_cons]
    by_cases hx : x = i
    · subst hx
      rw [hp, hq]
      have := filter_len_le h l
      simp only [Bool.false_eq_true, if_false, if_true, List.length_cons]; omega
    · have hi' : i ∈ l := by
        rcases List.mem_cons.1 hi with h | h
        · exact absurd h.symm hx
        · exact h
      have ih := filter_len_lt h hp hq l hi'
      cases hqx : q x with
      | true => rw [h x hqx]; simpa using ih
      | false =>
        cases p x
        · simpa using ih
        · simp only [Bool.false_eq_true, if_false, if_true, List.length_cons]; omega

section
variable {P : Program} {tt : TypeId → Option TI} (hT : TTok P tt) {w0 : World} {g0 : Gh} {mem0 : List AB}
include hT

theorem draw_sound {ops : Array Oper} {σ : AS} {E : List Eff} {pre : Nat → Nat → Bool} (D : DrawOK P tt ops σ E pre) {Q : Exit → Act → World → Prop} {k : AS → Prop}
    (hQ : ∀ σ w g a, Rel σ w g a → Env w0 g0 mem0 w g σ.mem → k σ → Q .normal a w) (hk : k (fo (fun _ => true) 0 E σ)) :
    ∀ (fuel : Nat) (listed : Array Bool) (a : Act) (w : World) (g : Gh), listed.size = ops.size →
      ((List.range ops.size).filter fun i => !listed.getD i true).length ≤ fuel →
      (∀ i j, listed.getD i false = true → pre i j = true → listed.getD j false = true) →
      Rel (fo (fun j => listed.getD j false) 0 E σ) w g a → Env w0 g0 mem0 w g (fo (fun j => listed.getD j false) 0 E σ).mem →
      wpAny P .any ops Q fuel listed a w := by
  have done : ∀ (listed : Array Bool) (a : Act) (w : World) (g : Gh), listed.size = ops.size → Region.ready .any ops listed = [] →
      Rel (fo (fun j => listed.getD j false) 0 E σ) w g a → Env w0 g0 mem0 w g (fo (fun j => listed.getD j false) 0 E σ).mem → Q .normal a w := by
    intro listed a w g hsz hrd hr he
    have all : ∀ i, i < ops.size → listed.getD i false = true := by
      intro i
      induction i using Nat.strongRecOn with
      | _ i ih =>
        intro hi
        cases hl : listed.getD i false with
        | true => rfl
        | false =>
          have hi' : i < listed.size := by omega
          have : i ∈ Region.ready .any ops listed := by
            rw [mem_ready]
            have ho : ops[i]? = some ops[i] := Array.getElem?_eq_getElem hi
            refine ⟨?_, ops[i], ho, fun e he hb => ih e.on (D.edge i _ ho e he hb) (by have := D.edge i _ ho e he hb; omega)⟩
            simp [Array.getD_eq_getD_getElem?, hi'] at hl ⊢
            exact hl
          rw [hrd] at this
          cases this
    have e : fo (fun j => listed.getD j false) 0 E σ = fo (fun _ => true) 0 E σ := fo_congr _ _ _ fun j hj => all _ (by rw [← D.len]; omega)
    rw [e] at hr he
    exact hQ _ w g a hr he hk
  intro fuel
  induction fuel with
  | zero =>
    intro listed a w g hsz hc hd hr he
    have hrd : Region.ready .any ops listed = [] := by
      rw [List.eq_nil_iff_forall_not_mem]
      intro i hi
      have hi1 := (mem_ready.1 hi)
      obtain ⟨h1, o, ho, _⟩ := hi1
      have hlt : i < ops.size := by
        refine Nat.lt_of_not_le fun h' => ?_
        rw [Array.getElem?_eq_none h'] at ho; cases ho
      have : i ∈ (List.range ops.size).filter fun i => !listed.getD i true := by
        rw [List.mem_filter]; exact ⟨List.mem_range.2 hlt, by rw [h1]; rfl⟩
      have h0 : ((List.range ops.size).filter fun i => !listed.getD i true) = [] := List.eq_nil_of_length_eq_zero (by omega)
      rw [h0] at this
      cases this
    exact ⟨hrd, done listed a w g hsz hrd hr he⟩
  | succ fuel ih =>
    intro listed a w g hsz hc hd hr he
    refine ⟨fun hrd => done listed a w g hsz hrd hr he, fun i hi => ?_⟩
    obtain ⟨h1, o, ho, hall⟩ := mem_ready.1 hi
    have hlt : i < ops.size := by
      refine Nat.lt_of_not_le fun h' => ?_
      rw [Array.getElem?_eq_none h'] at ho; cases ho
    have hli : listed.getD i false = false := by
      have hi' : i < listed.size := by omega
      simp [Array.getD_eq_getD_getElem?, hi'] at h1 ⊢
      exact h1
    obtain ⟨e, hE⟩ : ∃ e, E[i]? = some e := ⟨_, List.getElem?_eq_getElem (by rw [D.len]; exact hlt)⟩
    obtain ⟨ρ, nx, c, hc0, hcw, hfr, ht, hm, hdst, hop⟩ := D.op i o e ho hE
    have hsub : ∀ j, pre i j = true → listed.getD j false = true := by
      intro j hj
      obtain ⟨x, hx, hb, h⟩ := D.hpre i o ho j hj
      rcases h with h | h
      · rw [h]; exact hall x hx hb
      · exact hd _ _ (hall x hx hb) h
    have hout : ∀ j, listed.getD j false = true → j ≠ i ∧ pre j i = false := by
      intro j hj
      refine ⟨fun h => (by rw [h, hli] at hj; cases hj), ?_⟩
      cases hp : pre j i with
      | false => rfl
      | true => rw [hd j i hj hp] at hli; cases hli
    have hle : ρ.le (fo (fun j => listed.getD j false) 0 E σ).rd := by
      refine ⟨fun t x hx => ?_, fun b x hx => ?_⟩
      · obtain ⟨h1, h2⟩ := ht t x hx
        have e : (fo (fun j => listed.getD j false) 0 E σ).tmps[t]? = (fo (pre i) 0 E σ).tmps[t]? := by
          refine fo_t _ _ _ _ rfl rfl fun j e' hj hne => ?_
          rw [Nat.zero_add] at hne
          cases hp : pre i j with
          | true => rw [hp, hsub j hp] at hne; exact absurd rfl hne
          | false =>
            rw [hp] at hne
            have hj' : listed.getD j false = true := by simpa using hne
            obtain ⟨a1, a2⟩ := hout j hj'
            exact h2 j e' hj a1 hp a2
        simp only [AS.rd] at h1 ⊢
        rw [e]; exact h1
      · obtain ⟨h1, h2⟩ := hm b x hx
        have e : lk (fo (fun j => listed.getD j false) 0 E σ).mem b = lk (fo (pre i) 0 E σ).mem b := by
          refine fo_m _ _ _ _ rfl fun j e' hj hne => ?_
          rw [Nat.zero_add] at hne
          cases hp : pre i j with
          | true => rw [hp, hsub j hp] at hne; exact absurd rfl hne
          | false =>
            rw [hp] at hne
            have hj' : listed.getD j false = true := by simpa using hne
            obtain ⟨a1, a2⟩ := hout j hj'
            exact h2 j e' hj a1 hp a2
        simp only [AS.rd] at h1 ⊢
        rw [e]; exact h1
    have hfresh : ∀ j, j < c → lk (fo (fun j => listed.getD j false) 0 E σ).mem (nx + j) = .fut := by
      intro j hj
      obtain ⟨f1, f2⟩ := hfr (nx + j) (by omega) (by omega)
      have e : lk (fo (fun j => listed.getD j false) 0 E σ).mem (nx + j) = lk (fo (fun _ => false) 0 E σ).mem (nx + j) := by
        refine fo_m _ _ _ _ rfl fun q e' hq hne => ?_
        rw [Nat.zero_add] at hne
        have hj' : listed.getD q false = true := by simpa using hne
        obtain ⟨a1, a2⟩ := hout q hj'
        exact f2 q e' hq a1 a2
      have e2 : ∀ (l : List Eff) (s : Nat), fo (fun _ => false) s l σ = σ := by
        intro l
        induction l with
        | nil => intro s; rfl
        | cons x l ih => intro s; exact ih (s + 1)
      rw [e, e2]; exact f1
    have hset : (fun j => (listed.setIfInBounds i true).getD j false) = fun j => listed.getD j false || j == i := by
      funext j
      have hi' : i < listed.size := by omega
      by_cases h : j = i
      · subst h; simp [hi']
      · have h' : (j == i) = false := by simpa using h
        rw [h', Bool.or_false, getD_set_ne false (Ne.symm h)]
    have hins : e.on (fo (fun j => listed.getD j false) 0 E σ) = fo (fun j => (listed.setIfInBounds i true).getD j false) 0 E σ := by
      rw [hset]
      refine fo_insert E 0 σ (Nat.zero_le _) hE hli fun j e' h1 h2 h3 => ?_
      obtain ⟨_, a2⟩ := hout j h2
      exact D.ind i j e e' h1 hE h3 a2
    have hcount : ((List.range ops.size).filter fun j => !(listed.setIfInBounds i true).getD j true).length ≤ fuel := by
      have := filter_len_lt (p := fun j => !listed.getD j true) (q := fun j => !(listed.setIfInBounds i true).getD j true) (i := i) (fun j hj => ?_) (by simp only [h1]; rfl) (by
        have hi' : i < listed.size := by omega
        simp [hi']) (List.range ops.size) (List.mem_range.2 hlt)
      · omega
      · by_cases h : j = i
        · subst h; simp only [h1]; rfl
        · rw [getD_set_ne true (Ne.symm h)] at hj; exact hj
    have hdown : ∀ i' j, (listed.setIfInBounds i true).getD i' false = true → pre i' j = true → (listed.setIfInBounds i true).getD j false = true := by
      intro i' j h2 h3
      have hset' := congrFun hset
      rw [hset'] at h2 ⊢
      simp only [Bool.or_eq_true, beq_iff_eq] at h2 ⊢
      rcases h2 with h2 | h2
      · exact .inl (hd i' j h2 h3)
      · subst h2; exact .inl (hsub j h3)
    have next : ∀ a' w' g', Rel (e.on (fo (fun j => listed.getD j false) 0 E σ)) w' g' a' → Env w0 g0 mem0 w' g' (e.on (fo (fun j => listed.getD j false) 0 E σ)).mem →
        wpAny P .any ops Q fuel (listed.setIfInBounds i true) a' w' := by
      intro a' w' g' hr' he'
      rw [hins] at hr' he'
      exact ih _ a' w' g' (by simpa using hsz) hcount hdown hr' he'
    have exec : OpR P tt ρ nx o.op e.av e.ws → o.wp P a w (wpAny P .any ops Q fuel (listed.setIfInBounds i true)) Q := by
      intro h
      refine op_wp hT hr hfresh hc0 hcw (OpR_le hle h) fun w' g' v S R => ?_
      rw [← hdst] at R ⊢
      exact next _ w' g' R (he.step S)
    unfold wpOp
    rw [ho]
    simp only
    revert hop
    cases hg : o.guard with
    | none =>
      intro hop
      simp only [Region.wanted, hg, if_true]
      exact .inl (exec hop)
    | some p =>
      obtain ⟨j, want⟩ := p
      intro hop
      simp only at hop
      obtain ⟨b, hb, hop⟩ := hop
      have hy := yielded_of hr (guardV_le hle ops j b hb)
      simp only [Region.wanted, hg, hy]
      split at hop
      · rename_i hbw
        subst hbw
        simp only [beq_self_eq_true, if_true]
        exact .inl (exec hop)
      · rename_i hbw
        rw [if_neg (by simpa using hbw)]
        have hsk := hr.skip o.dst
        have e1 : (fo (fun j => listed.getD j false) 0 E σ).app o.dst .non [] = e.on (fo (fun j => listed.getD j false) 0 E σ) := by
          simp only [Eff.on, hdst, hop.1, hop.2]
        rw [e1] at hsk
        refine next _ w g hsk ?_
        have e2 : (e.on (fo (fun j => listed.getD j false) 0 E σ)).mem = (fo (fun j => listed.getD j false) 0 E σ).mem := by
          simp only [Eff.on, AS.app, hop.2, appW, List.foldl]
        rw [e2]; exact he

end
end Go.Proofs.Ytfeiaibdnnhlaaa
