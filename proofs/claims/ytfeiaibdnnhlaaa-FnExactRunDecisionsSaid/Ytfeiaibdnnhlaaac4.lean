import Derived.Test.Ytfeiaibdnnhlaaac3
/- The runner, part 4: code, loops, functions. -/
set_option linter.unusedSectionVars false
set_option linter.unusedVariables false
set_option linter.unusedSimpArgs false
namespace Go.Proofs.Ytfeiaibdnnhlaaa

def lid : Code → Nat
  | .region id _ _ => id
  | .seq a _ => lid a
  | .block _ c => lid c
  | .loop c => lid c
  | _ => 0

def loopsIn : Code → List Code
  | .seq x y => loopsIn x ++ loopsIn y
  | .cond _ x y => loopsIn x ++ loopsIn y
  | .block _ c => loopsIn c
  | .loop c => [c]
  | _ => []

def undefs (ops : Array Oper) (l : TL) : TL := ops.toList.foldr (fun o l => putL o.dst .undef l) l

section
variable {R : Type}

def cregion (tt : TypeId → Option TI) (cc : CC) (n : Nat) (pure : Bool) (D : List DI) (ops : Array Oper) (draw : Bool) (l : TL) (m : List AB) (k : TL → List AB → Option R) : Option R :=
  match draw with
  | true => match preOK D 0 ops.toList with
    | true => cdr tt cc n pure ops l m 0 D ops.toList [] fun E => match chkD D m E with
      | true => k (tall E l) (mall E m)
      | false => none
    | false => none
  | false => cops tt cc n pure ops 0 ops.toList l m k

def boolAt (n : Nat) (t : Tmp) (l : TL) : Option Bool := match aget n l t with
  | some (.d (.bool b)) => some b
  | _ => none

/-- Code. -/
def crun (tt : TypeId → Option TI) (cc : CC) (n : Nat) : Code → TL → List AB → (Ex → TL → List AB → Option R) → Option R
  | .skip, l, m, k => k .normal l m
  | .seq x y, l, m, k => crun tt cc n x l m fun e l m => match e with
    | .normal => crun tt cc n y l m k
    | .exit id => k (.exit id) l m
    | .ret => k .ret l m
  | .region id ops draw, l, m, k => match cc.mg id with
    | none => cregion tt cc n false (cc.dr id) ops draw l m (k .normal)
    | some t => bi (cregion tt cc n true (cc.dr id) ops draw l m fun l' _ => boolAt n t l') fun b => k .normal ((t, .d (.bool b)) :: undefs ops l) m
  | .cond c x y, l, m, k => match aeval (rdS n l m) c with
    | some (.d (.bool b)) => br b (crun tt cc n x l m k) (crun tt cc n y l m k)
    | _ => none
  | .block id c, l, m, k => crun tt cc n c l m fun e l m => match e with
    | .normal => k .normal l m
    | .exit j => match Nat.beq j id with
      | true => k .normal l m
      | false => k (.exit j) l m
    | .ret => k .ret l m
  | .exit id, l, m, k => k (.exit id) l m
  | .ret, l, m, k => k .ret l m
  | .loop c, l, m, k => match cc.Λ (lid c) with
    | some s => s R l m k
    | none => none
  | _, _, _, _ => none

def lpK (n0 : Nat) (live : List Nat) (l : TL) (m : List AB) : List Nat := idsM m 3 (idsAVs (live.map fun t => (l.lookup t).getD .undef) (List.range n0))

/-- A nil slice becomes an empty block. -/
def wid (n : Nat) : List (Tmp × Nat) → TL → List AB → (TL → List AB → Option R) → Option R
  | [], l, m, k => k l m
  | (t, e) :: r, l, m, k => match aget n l t with
    | some .nil => wid n r ((t, .sl m.length) :: l) (m ++ [.ar e 0 []]) k
    | _ => wid n r l m k

/-- What is not needed any more is forgotten. -/
def gcf0 (n0 : Nat) (live : List Nat) (k : TL → List AB → Option R) (l : TL) (m : List AB) : Option R :=
  match gcOK n0 (lpK n0 live l m) m with
  | true => k (rsL (gcM (lpK n0 live l m) m (lpK n0 live l m)) (gcL (lpK n0 live l m) live l)) (rsM (gcM (lpK n0 live l m) m (lpK n0 live l m)) (gcM (lpK n0 live l m) m (lpK n0 live l m)))
  | false => none

def gcf (n n0 : Nat) (wd : List (Tmp × Nat)) (live : List Nat) (l : TL) (m : List AB) (k : TL → List AB → Option R) : Option R :=
  wid n wd l m (gcf0 n0 live k)

theorem gcf0_eq {n0 : Nat} {live : List Nat} {l : TL} {m : List AB} {k : TL → List AB → Option R} {r : R} (h : gcf0 n0 live k l m = some r) : ∃ K, gcOK n0 K m = true ∧ k (rsL (gcM K m K) (gcL K live l)) (rsM (gcM K m K) (gcM K m K)) = some r := by
  unfold gcf0 at h
  split at h
  · exact ⟨_, by assumption, h⟩
  · cases h

/-- What follows a round. -/
def lnext (n n0 : Nat) (wd : List (Tmp × Nat)) (live : List Nat) (rec : TL → List AB → Option R) (k : Ex → TL → List AB → Option R) (e : Ex) (l : TL) (m : List AB) : Option R :=
  match e with
  | .normal => gcf n n0 wd live l m rec
  | .exit id => k (.exit id) l m
  | .ret => k .ret l m

def loopG (n n0 : Nat) (wd : List (Tmp × Nat)) (body : TL → List AB → (Ex → TL → List AB → Option R) → Option R) (live : List Nat) (k : Ex → TL → List AB → Option R) : Nat → TL → List AB → Option R
  | 0, _, _ => none
  | N + 1, l, m => body l m (lnext n n0 wd live (loopG n n0 wd body live k N) k)

def lexit (n n0 : Nat) (liveX : Ex → List Nat) (k : Ex → TL → List AB → Option R) (e : Ex) (l : TL) (m : List AB) : Option R := gcf n n0 [] (liveX e) l m (k e)

def lsum (tt : TypeId → Option TI) (cc : CC) (n n0 : Nat) (c : Code) (wd : List (Tmp × Nat)) (live : List Nat) (liveX : Ex → List Nat) (N : Nat) : LSum :=
  fun _ l m k => gcf n n0 wd live l m (loopG n n0 wd (crun tt cc n c) live (lexit n n0 liveX k) N)

def cfunN (tt : TypeId → Option TI) (cc : CC) (fn : Func) (n0 : Nat) (args : List AV) (mem : List AB) (k : AV → List AB → Option R) : Option R :=
  match fn.body with
  | none => none
  | some c => crun tt cc fn.ntmps c (argL 0 args) mem fun e l m => match e with
    | .exit _ => none
    | .normal => bi (ares tt (rdS fn.ntmps l m) fn.results.toList) fun av => match gcOK n0 (keepOf n0 av m) m with
      | true => k (rsAV (gcM (keepOf n0 av m) m (keepOf n0 av m)) (gcAV (keepOf n0 av m) av)) (rsM (gcM (keepOf n0 av m) m (keepOf n0 av m)) (gcM (keepOf n0 av m) m (keepOf n0 av m)))
      | false => none
    | .ret => bi (ares tt (rdS fn.ntmps l m) fn.results.toList) fun av => match gcOK n0 (keepOf n0 av m) m with
      | true => k (rsAV (gcM (keepOf n0 av m) m (keepOf n0 av m)) (gcAV (keepOf n0 av m) av)) (rsM (gcM (keepOf n0 av m) m (keepOf n0 av m)) (gcM (keepOf n0 av m) m (keepOf n0 av m)))
      | false => none

end

/-- A loop's summary is right. -/
def LOK (P : Program) (n n0 : Nat) (c : Code) (s : LSum) : Prop :=
  ∀ (w0 : World) (g0 : Gh) (mem0 : List AB), mem0.length ≤ n0 → ∀ (R : Type) (l : TL) (m : List AB) (k : Ex → TL → List AB → Option R) (r : R) (w : World) (g : Gh) (a : Act),
    Rel (S n l m) w g a → Env w0 g0 mem0 w g m → s R l m k = some r → (Code.loop c).wp P (Post w0 g0 mem0 fun e τ => ∃ l' m', τ = S n l' m' ∧ k e l' m' = some r) a w

section
variable {R : Type} {P : Program} {tt : TypeId → Option TI} {cc : CC} (hT : TTok P tt) (hM : P.follows .mixedOrders = true) (hΓ : ∀ f s, cc.Γ f = some s → SmrOK P f s) {w0 : World} {g0 : Gh} {mem0 : List AB} {n n0 : Nat} (hn0 : mem0.length ≤ n0)

theorem mall_nil {m : List AB} : ∀ {E : List (Nat × Eff)}, (∀ x ∈ E, x.2.ws = []) → mall E m = m
  | [], _ => rfl
  | (_, e) :: E, h => by
    simp only [mall]
    have h1 := h _ (List.mem_cons_self ..)
    simp only at h1
    rw [h1, mall_nil fun x hx => h x (List.mem_cons_of_mem _ hx)]
    rfl

theorem tall_get {l : TL} {j : Nat} : ∀ {E : List (Nat × Eff)}, (∀ x ∈ E, x.2.dst ≠ some j) → aget n (tall E l) j = aget n l j
  | [], _ => rfl
  | (_, e) :: E, h => by
    have ih := tall_get (l := l) (E := E) fun x hx => h x (List.mem_cons_of_mem _ hx)
    have h1 := h _ (List.mem_cons_self ..)
    simp only [tall]
    split
    · rename_i d hd
      have := aget_putL n (tall E l) (some d) e.av j (by rw [← hd]; exact h1)
      simp only [putL] at this
      rw [this, ih]
    · exact ih

include hΓ in
/-- A region, as code. -/
theorem cregion_awp {id : Nat} {pure : Bool} {D : List DI} {ops : Array Oper} {draw : Bool} {l : TL} {m : List AB} {k : TL → List AB → Option R} {r : R} (h : cregion tt cc n pure D ops draw l m k = some r) :
    awp P tt n0 (.region id ops draw) (S n l m) fun e τ => e = .normal ∧ ∃ l' m', τ = S n l' m' ∧ k l' m' = some r ∧ Leaves n pure ops.toList l m l' m' := by
  unfold cregion at h
  split at h
  · split at h
    · rename_i hp
      refine w_draw D hp (dW_mono ?_ _ _ _ (cdr_sound hΓ ops.toList h))
      rintro E ⟨h1, h2⟩
      split at h1
      · rename_i hc
        refine ⟨hc, rfl, _, _, rfl, h1, fun hpp => ⟨?_, fun j hj => ?_⟩⟩
        · refine mall_nil fun x hx => ?_
          rcases h2 x hx with h3 | ⟨h3, _⟩
          · cases h3
          · exact h3 hpp
        · refine tall_get fun x hx => ?_
          rcases h2 x hx with h3 | ⟨_, o, ho, h4⟩
          · cases h3
          · rw [h4]; exact hj o ho
      · cases h1
    · cases h
  · have h := cops_sound hΓ ops.toList h
    simp only [awp, Bool.false_eq_true, if_false]
    refine aops_mono ?_ h
    rintro τ ⟨l', m', rfl, h1, h2⟩
    exact ⟨trivial, l', m', rfl, h1, h2⟩

theorem aget_undefs {l : TL} {j : Nat} : ∀ (ops : List Oper), ((∀ o ∈ ops, o.dst ≠ some j) → aget n (ops.foldr (fun o l => putL o.dst .undef l) l) j = aget n l j) ∧
    (∀ o ∈ ops, o.dst = some j → ∀ v, aget n (ops.foldr (fun o l => putL o.dst .undef l) l) j = some v → v = .undef)
  | [] => ⟨fun _ => rfl, fun o ho => by cases ho⟩
  | x :: t => by
    obtain ⟨h1, h2⟩ := aget_undefs (l := l) (j := j) t
    refine ⟨fun h => ?_, fun o ho hd v hv => ?_⟩
    · simp only [List.foldr]
      rw [aget_putL _ _ _ _ _ (h x (List.mem_cons_self ..))]
      exact h1 fun o ho => h o (List.mem_cons_of_mem _ ho)
    · simp only [List.foldr] at hv
      by_cases hx : x.dst = some j
      · rw [hx] at hv
        simp only [putL, aget, Nat.beq_refl] at hv
        split at hv
        · cases hv; rfl
        · cases hv
      · rw [aget_putL _ _ _ _ _ hx] at hv
        rcases List.mem_cons.1 ho with rfl | ho
        · exact absurd hd hx
        · exact h2 o ho hd v hv

/-- Only one boolean of what a region without writes has computed is kept. -/
theorem Rel.merge {l l' : TL} {m : List AB} {ops : Array Oper} {t : Tmp} {b : Bool} {w : World} {g : Gh} {a : Act} (hr : Rel (S n l' m) w g a) (hb : boolAt n t l' = some b)
    (hl : ∀ j, (∀ o ∈ ops.toList, o.dst ≠ some j) → aget n l' j = aget n l j) : Rel (S n ((t, .d (.bool b)) :: undefs ops l) m) w g a := by
  refine ⟨hr.mem, fun j v hv => ?_, by rw [← hr.sz]; simp only [S, mkT_len], hr.df⟩
  simp only [S, mkT_get] at hv
  have ht := hr.tm
  simp only [S, mkT_get] at ht
  simp only [aget] at hv
  split at hv
  · rename_i hj
    have hj := Nat.eq_of_beq_eq_true hj
    subst hj
    split at hv
    · cases hv
      refine ht t _ ?_
      unfold boolAt at hb
      split at hb
      · rename_i hb'; cases hb; exact hb'
      · cases hb
    · cases hv
  · obtain ⟨h1, h2⟩ := aget_undefs (n := n) (l := l) (j := j) ops.toList
    by_cases hd : ∃ o ∈ ops.toList, o.dst = some j
    · obtain ⟨o, ho, hd⟩ := hd
      have := h2 o ho hd v hv
      subst this
      exact .undef _
    · have hd : ∀ o ∈ ops.toList, o.dst ≠ some j := fun o ho h => hd ⟨o, ho, h⟩
      have hv : aget n l j = some v := by rw [← h1 hd]; exact hv
      exact ht j v (by rw [hl j hd]; exact hv)

theorem Post.mono {Q Q' : Ex → AS → Prop} {e : Exit} {a : Act} {w : World} (h : Post w0 g0 mem0 Q e a w) (hq : ∀ e τ, Q e τ → Q' e τ) : Post w0 g0 mem0 Q' e a w := by
  cases e with
  | normal => obtain ⟨τ, g, h1, h2, h3⟩ := h; exact ⟨τ, g, h1, h2, hq _ _ h3⟩
  | exit id => obtain ⟨τ, g, h1, h2, h3⟩ := h; exact ⟨τ, g, h1, h2, hq _ _ h3⟩
  | ret => obtain ⟨τ, g, h1, h2, h3⟩ := h; exact ⟨τ, g, h1, h2, hq _ _ h3⟩
  | _ => exact h.elim

include hT hM hΓ hn0

theorem crun_sound : ∀ (c : Code) {l : TL} {m : List AB} {w : World} {g : Gh} {a : Act} {k : Ex → TL → List AB → Option R} {r : R}, (∀ b ∈ loopsIn c, ∀ s, cc.Λ (lid b) = some s → LOK P n n0 b s) →
    Rel (S n l m) w g a → Env w0 g0 mem0 w g m → crun tt cc n c l m k = some r → c.wp P (Post w0 g0 mem0 fun e τ => ∃ l' m', τ = S n l' m' ∧ k e l' m' = some r) a w
  | .skip, l, m, w, g, a, k, r, hΛ, hr, he, h => wp_skip ⟨_, g, hr, he, l, m, rfl, h⟩
  | .seq x y, l, m, w, g, a, k, r, hΛ, hr, he, h => by
    refine wp_seq (wp_mono (crun_sound x (fun b hb => hΛ b (List.mem_append.2 (.inl hb))) hr he h) fun e a' w' hq => ?_)
    cases e with
    | normal => obtain ⟨τ, g', hr', he', l', m', rfl, hq⟩ := hq; exact crun_sound y (fun b hb => hΛ b (List.mem_append.2 (.inr hb))) hr' he' hq
    | exit id => exact hq
    | ret => exact hq
    | _ => exact hq.elim
  | .region id ops draw, l, m, w, g, a, k, r, hΛ, hr, he, h => by
    simp only [crun] at h
    split at h
    · refine wp_mono (awp_sound hT hM hn0 _ hr he (cregion_awp hΓ (n0 := n0) (id := id) h)) fun e a' w' hq => hq.mono ?_
      rintro e τ ⟨rfl, l', m', rfl, h1, _⟩
      exact ⟨l', m', rfl, h1⟩
    · rename_i t _
      obtain ⟨b, h1, h2⟩ := bi_eq h
      refine wp_mono (awp_sound hT hM hn0 _ hr he (cregion_awp hΓ (n0 := n0) (id := id) h1)) fun e a' w' hq => ?_
      cases e with
      | normal =>
        obtain ⟨τ, g', hr', he', _, l', m', rfl, hb, hl⟩ := hq
        obtain ⟨rfl, hl2⟩ := hl rfl
        exact ⟨_, g', hr'.merge hb hl2, he', _, _, rfl, h2⟩
      | exit id' => obtain ⟨τ, g', hr', he', hf, _⟩ := hq; cases hf
      | ret => obtain ⟨τ, g', hr', he', hf, _⟩ := hq; cases hf
      | _ => exact hq.elim
  | .cond c x y, l, m, w, g, a, k, r, hΛ, hr, he, h => by
    simp only [crun] at h
    split at h
    · rename_i b hb
      have hb' : aeval (S n l m).rd c = some (.d (.bool b)) := by rw [S_rd]; exact hb
      have hv := RA_bool (aeval_sound hr hb')
      rcases br_eq h with ⟨rfl, h⟩ | ⟨rfl, h⟩
      · exact wp_cond_true hv (crun_sound x (fun b hb => hΛ b (List.mem_append.2 (.inl hb))) hr he h)
      · exact wp_cond_false hv (crun_sound y (fun b hb => hΛ b (List.mem_append.2 (.inr hb))) hr he h)
    · cases h
  | .block id c, l, m, w, g, a, k, r, hΛ, hr, he, h => by
    refine wp_block (wp_mono (crun_sound c hΛ hr he h) fun e a' w' hq => ?_)
    cases e with
    | normal => exact hq
    | exit id' =>
      obtain ⟨τ, g', hr', he', l', m', rfl, hq⟩ := hq
      simp only [Exit.inBlock]
      replace hq : (match Nat.beq id' id with | true => k .normal l' m' | false => k (.exit id') l' m') = some r := hq
      split at hq
      · rename_i hid
        have hid := Nat.eq_of_beq_eq_true hid
        rw [if_pos hid]
        exact ⟨_, g', hr', he', l', m', rfl, hq⟩
      · rename_i hid
        rw [if_neg (Nat.ne_of_beq_eq_false hid)]
        exact ⟨_, g', hr', he', l', m', rfl, hq⟩
    | ret => exact hq
    | _ => exact hq.elim
  | .exit id, l, m, w, g, a, k, r, hΛ, hr, he, h => wp_exit ⟨_, g, hr, he, l, m, rfl, h⟩
  | .ret, l, m, w, g, a, k, r, hΛ, hr, he, h => wp_ret ⟨_, g, hr, he, l, m, rfl, h⟩
  | .loop c, l, m, w, g, a, k, r, hΛ, hr, he, h => by
    simp only [crun] at h
    split at h
    · rename_i s hs
      exact hΛ c (List.mem_singleton.2 rfl) s hs w0 g0 mem0 hn0 R l m k r w g a hr he h
    · cases h
  | .rangeFunc .., _, _, _, _, _, _, _, _, _, _, h => by cases h
  | .scope _, _, _, _, _, _, _, _, _, _, _, h => by cases h
  | .label _, _, _, _, _, _, _, _, _, _, _, h => by cases h
  | .goto _, _, _, _, _, _, _, _, _, _, _, h => by cases h
  | .refuse _, _, _, _, _, _, _, _, _, _, _, h => by cases h

end

section
variable {R : Type} {P : Program} {tt : TypeId → Option TI} {cc : CC} (hT : TTok P tt) (hM : P.follows .mixedOrders = true) (hΓ : ∀ f s, cc.Γ f = some s → SmrOK P f s) {n n0 : Nat}

theorem aget_rsL {n : Nat} {m : List AB} : ∀ (l : TL) (j : Nat), aget n (rsL m l) j = (aget n l j).map (rsAV m)
  | [], j => by
    simp only [rsL, aget]
    split <;> rfl
  | (t, a) :: l, j => by
    simp only [rsL, aget]
    split
    · split <;> rfl
    · exact aget_rsL l j

theorem Rel.rs {n : Nat} {l : TL} {m : List AB} {w : World} {g : Gh} {a : Act} (hr : Rel (S n l m) w g a) : Rel (S n (rsL m l) (rsM m m)) w g a := by
  refine ⟨hr.mem.rs, fun t v ht => ?_, by rw [← hr.sz]; simp only [S, mkT_len], hr.df⟩
  simp only [S, mkT_get, aget_rsL] at ht
  cases hv : aget n l t with
  | none => rw [hv] at ht; cases ht
  | some x =>
    rw [hv] at ht
    cases ht
    have h1 := hr.tm t x (by simp only [S, mkT_get]; exact hv)
    exact h1.rs

theorem Env.rs {w0 : World} {g0 : Gh} {mem0 : List AB} {m : List AB} {w : World} {g : Gh} (he : Env w0 g0 mem0 w g m) : Env w0 g0 mem0 w g (rsM m m) :=
  ⟨he.fr, fun b hb => by rw [lk_rsM]; exact fun e => he.kn b hb (rsAB_fut.1 e)⟩

def Gh.wid (g : Gh) (b0 : Nat) : Gh := { g with loc := fun b => if b = b0 then none else g.loc b }

theorem lk_snoc (m : List AB) (x : AB) (b : Nat) : lk (m ++ [x]) b = if b = m.length then x else lk m b := by
  simp only [lk, List.getD, List.getElem?_append]
  by_cases h : b < m.length
  · rw [if_pos h, if_neg (by omega)]
  · rw [if_neg h]
    by_cases h' : b = m.length
    · subst h'; simp
    · rw [if_neg h', List.getElem?_eq_none (by simp; omega), List.getElem?_eq_none (by omega)]

theorem Keep.wid (w : World) (g : Gh) (m : List AB) (e : Nat) : Keep w g m w (g.wid m.length) (m ++ [.ar e 0 []]) where
  ok := fun q hq => ⟨hq, fun _ _ h => h⟩
  nofut := fun b hb => by
    rw [lk_snoc]
    split
    · exact AB.noConfusion
    · exact hb
  sv := fun b cells hb h => by
    have hlt : b ≠ m.length := fun e => hb (by rw [e]; exact lk_ge (Nat.le_refl _))
    rw [lk_snoc, if_neg hlt] at h
    exact ⟨⟨cells, h⟩, by simp only [Gh.wid, if_neg hlt]⟩
  ar := fun b e n xs hb h => by
    have hlt : b ≠ m.length := fun e => hb (by rw [e]; exact lk_ge (Nat.le_refl _))
    rw [lk_snoc, if_neg hlt] at h
    exact ⟨n, xs, h, rfl, Nat.le_refl _, by simp only [Gh.wid, if_neg hlt], rfl, fun _ q l hq => ⟨hq, fun _ _ h => h⟩⟩

theorem Mem.wid {w : World} {g : Gh} {m : List AB} (hm : Mem w g m) (e : Nat) : Mem w (g.wid m.length) (m ++ [.ar e 0 []]) := by
  refine ⟨⟨hm.good.ok, hm.good.new, fun q b l h => (Keep.wid w g m e).nofut b (hm.good.nf q b l h)⟩, fun b => ?_⟩
  rw [lk_snoc]
  split
  · rename_i hb
    exact .inl ⟨by simp only [Gh.wid, if_pos hb], rfl⟩
  · rename_i hb
    have hB := hm.rm b
    cases hx : lk m b with
    | fut => trivial
    | gone => trivial
    | sv cells =>
      rw [hx] at hB
      obtain ⟨q, cs, t, a1, a2, a3, a4, a5, a6⟩ := hB
      exact ⟨q, cs, t, by simp only [Gh.wid, if_neg hb]; exact a1, a2, a3, a4, a5, fun j c v hj hv => (a6 j c v hj hv).keep (Keep.wid w g m e)⟩
    | ar e' n xs =>
      rw [hx] at hB
      rcases hB with ⟨a1, a2⟩ | ⟨q, cs, t, a1, a2⟩
      · exact .inl ⟨by simp only [Gh.wid, if_neg hb]; exact a1, a2⟩
      · exact .inr ⟨q, cs, t, by simp only [Gh.wid, if_neg hb]; exact a1, a2⟩

theorem wid_step {w0 : World} {g0 : Gh} {mem0 : List AB} {n : Nat} {R : Type} {k : TL → List AB → Option R} {r : R} {w : World} {a : Act} : ∀ {wd : List (Tmp × Nat)} {l : TL} {m : List AB} {g : Gh}, Rel (S n l m) w g a → Env w0 g0 mem0 w g m → wid n wd l m k = some r →
    ∃ l' m' g', Rel (S n l' m') w g' a ∧ Env w0 g0 mem0 w g' m' ∧ k l' m' = some r
  | [], l, m, g, hr, he, h => ⟨l, m, g, hr, he, h⟩
  | (t, e) :: wd, l, m, g, hr, he, h => by
    simp only [wid] at h
    split at h
    · rename_i hn
      have ht := hr.tm t .nil (by simp only [S, mkT_get]; exact hn)
      refine wid_step (g := g.wid m.length) ?_ ?_ h
      · refine ⟨hr.mem.wid e, fun j v hj => ?_, by rw [← hr.sz]; simp only [S, mkT_len], hr.df⟩
        simp only [S, mkT_get, aget] at hj
        split at hj
        · rename_i hjt
          have hjt := Nat.eq_of_beq_eq_true hjt
          subst hjt
          split at hj
          · cases hj
            generalize a.tmps.getD t undef = u at ht ⊢
            cases ht
            refine .sl _ _ ?_ rfl
            show slOK (g.wid m.length) m.length (Value.slice none 0 0) (lk (m ++ [.ar e 0 []]) m.length)
            rw [lk_snoc, if_pos rfl]
            simp only [slOK, hdr, Gh.wid, if_true, List.length_nil]
          · cases hj
        · exact (hr.tm j v (by simp only [S, mkT_get]; exact hj)).keep (Keep.wid w g m e)
      · refine ⟨⟨he.fr.size, he.fr.ro, fun b hb => ?_, he.fr.os, he.fr.out⟩, fun b hb => (Keep.wid w g m e).nofut b (he.kn b hb)⟩
        have hlt : b ≠ m.length := fun e => he.kn b hb (by rw [e]; exact lk_ge (Nat.le_refl _))
        obtain ⟨h1, h2⟩ := he.fr.loc b hb
        exact ⟨by simp only [Gh.wid, if_neg hlt]; exact h1, h2⟩
    · exact wid_step hr he h

theorem gc_step {w0 : World} {g0 : Gh} {mem0 : List AB} (hn0 : mem0.length ≤ n0) {wd : List (Tmp × Nat)} {live : List Nat} {l : TL} {m : List AB} {k : TL → List AB → Option R} {r : R} {w : World} {g : Gh} {a : Act} (hr : Rel (S n l m) w g a) (he : Env w0 g0 mem0 w g m) (h : gcf n n0 wd live l m k = some r) :
    ∃ l' m' g', Rel (S n l' m') w g' a ∧ Env w0 g0 mem0 w g' m' ∧ k l' m' = some r := by
  obtain ⟨l, m, g, hr, he, h⟩ := wid_step hr he h
  obtain ⟨K, hK, h⟩ := gcf0_eq h
  have hn : K.Nodup := by
    simp only [gcOK, Bool.and_eq_true] at hK
    exact nodupL_iff hK.1.1
  have h1 := hr.gc hn live
  rw [gc_S] at h1
  exact ⟨_, _, _, h1.rs, (he.gc hn0 hK).rs, h⟩

include hT hM hΓ in
theorem lsum_ok {c : Code} (hΛ : ∀ b ∈ loopsIn c, ∀ s, cc.Λ (lid b) = some s → LOK P n n0 b s) (wd : List (Tmp × Nat)) (live : List Nat) (liveX : Ex → List Nat) (N : Nat) : LOK P n n0 c (lsum tt cc n n0 c wd live liveX N) := by
  intro w0 g0 mem0 hn0 R l m k r w g a hr he h
  unfold lsum at h
  obtain ⟨l1, m1, g1, hr1, he1, h1⟩ := gc_step hn0 hr he h
  clear hr he h
  refine wp_loop_rounds N ?_
  induction N generalizing l1 m1 w g1 a with
  | zero => cases h1
  | succ N ih =>
    rw [rounds_succ]
    refine wp_mono (crun_sound hT hM hΓ hn0 c hΛ hr1 he1 h1) fun e a' w' hq => ?_
    cases e with
    | normal =>
      obtain ⟨τ, g', hr', he', l', m', rfl, hq⟩ := hq
      obtain ⟨l2, m2, g2, hr2, he2, hq⟩ := gc_step hn0 hr' he' hq
      exact ih (l1 := l2) (m1 := m2) (w := w') (g1 := g2) (a := a') hr2 he2 hq
    | exit id =>
      obtain ⟨τ, g', hr', he', l', m', rfl, hq⟩ := hq
      obtain ⟨l2, m2, g2, hr2, he2, hq⟩ := gc_step hn0 hr' he' hq
      exact ⟨_, g2, hr2, he2, l2, m2, rfl, hq⟩
    | ret =>
      obtain ⟨τ, g', hr', he', l', m', rfl, hq⟩ := hq
      obtain ⟨l2, m2, g2, hr2, he2, hq⟩ := gc_step hn0 hr' he' hq
      exact ⟨_, g2, hr2, he2, l2, m2, rfl, hq⟩
    | _ => exact hq.elim

theorem LOK.of {c : Code} {s s' : LSum} (h : LOK P n n0 c s) (hs : ∀ (R : Type) (l : TL) (m : List AB) (k : Ex → TL → List AB → Option R) (r : R), s' R l m k = some r → s R l m k = some r) : LOK P n n0 c s' :=
  fun w0 g0 mem0 hn0 R l m k r w g a hr he h' => h w0 g0 mem0 hn0 R l m k r w g a hr he (hs R l m k r h')

include hT hM hΓ in
theorem spec_of_run {f : FuncId} {fn : Func} (hf : P.funcs[f]? = some fn) (hn : (fn.name == "runtime.NumGoroutine") = false) {args : List AV} {mem : List AB} (hl : args.length ≤ fn.ntmps)
    (hΛ : ∀ c, fn.body = some c → ∀ b ∈ loopsIn c, ∀ s, cc.Λ (lid b) = some s → LOK P fn.ntmps mem.length b s) {res : AV} {mem1 : List AB}
    (h : cfunN tt cc fn mem.length args mem (fun a m => some (a, m)) = some (res, mem1)) : Spec P f args mem res mem1 := by
  unfold cfunN at h
  split at h
  · cases h
  · rename_i c hb
    refine ⟨⟨fn, hf, by rw [hb]; rfl, hn⟩, fun w g vs hm hA => ?_⟩
    have hr0 : Rel (S fn.ntmps (argL 0 args) mem) w g { tmps := vs.toArray ++ Array.replicate (fn.ntmps - vs.toArray.size) undef, defers := [] } := by
      refine ⟨hm, fun t v ht => ?_, ?_, rfl⟩
      · simp only [S, mkT_get, aget_lookup, argL_lookup, Nat.zero_le, if_true, Nat.sub_zero] at ht
        split at ht
        · cases hat : args[t]? with
          | none =>
            rw [hat] at ht
            cases ht
            exact .undef _
          | some x =>
            rw [hat] at ht
            cases ht
            have hlt : t < args.length := (List.getElem?_eq_some_iff.1 hat).1
            have hlt' : t < vs.length := by rw [← hA.1]; exact hlt
            have : (vs.toArray ++ Array.replicate (fn.ntmps - vs.toArray.size) undef).getD t undef = vs[t] := by
              simp [Array.getD_eq_getD_getElem?, Array.getElem?_append, hlt']
            rw [this]
            exact hA.2 t _ _ hat (List.getElem?_eq_getElem hlt')
        · cases ht
      · have := hA.1
        simp only [S, mkT_len, Array.size_append, List.size_toArray, Array.size_replicate]
        omega
    refine calls_of_wp hf hb (wp_mono (crun_sound hT hM hΓ (w0 := w) (g0 := g) (mem0 := mem) (Nat.le_refl _) c (hΛ c hb) hr0 ⟨⟨Nat.le_refl _, fun q _ hr => ⟨rfl, hr, id⟩, fun _ _ => ⟨rfl, rfl⟩, rfl, rfl⟩, fun _ h => h⟩ h) fun e a w' hq => ?_)
    have fin : ∀ {l m g'}, Rel (S fn.ntmps l m) w' g' a → Env w g mem w' g' m → (bi (ares tt (rdS fn.ntmps l m) fn.results.toList) fun av => match gcOK mem.length (keepOf mem.length av m) m with
        | true => some (rsAV (gcM (keepOf mem.length av m) m (keepOf mem.length av m)) (gcAV (keepOf mem.length av m) av), rsM (gcM (keepOf mem.length av m) m (keepOf mem.length av m)) (gcM (keepOf mem.length av m) m (keepOf mem.length av m)))
        | false => none) = some (res, mem1) → a.defers = [] ∧ ∃ v, (results fn a.tmps).run P w' = .ok v w' ∧ ∃ v' g', Ending.returned v = .returned v' ∧ Mem w' g' mem1 ∧ RA w' g' mem1 res v' ∧ Fr w g mem w' g' := by
      intro l m g' hr he hq
      obtain ⟨av, h1, hq⟩ := bi_eq hq
      rw [← S_rd] at h1
      obtain ⟨v, hv, hA'⟩ := ares_run hT hr h1
      split at hq
      · rename_i h2
        cases hq
        have hn : (keepOf mem.length av m).Nodup := by
          simp only [gcOK, Bool.and_eq_true] at h2
          exact nodupL_iff h2.1.1
        exact ⟨hr.df, v, hv, v, _, rfl, (hr.mem.gc hn).rs, hA'.gc.rs, (he.gc (Nat.le_refl _) h2).fr⟩
      · cases hq
    cases e with
    | normal => obtain ⟨σ, g', hr, he, l', m', rfl, hq⟩ := hq; exact fin hr he hq
    | ret => obtain ⟨σ, g', hr, he, l', m', rfl, hq⟩ := hq; exact fin hr he hq
    | exit id => obtain ⟨σ, g', hr, he, l', m', rfl, hq⟩ := hq; cases hq
    | _ => exact hq.elim

end
end Go.Proofs.Ytfeiaibdnnhlaaa
