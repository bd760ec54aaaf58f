import Derived.Test.Ytfeiaibdnnhlaaac2b
/- The runner, part 3: calls, regions, code. -/
set_option linter.unusedSectionVars false
set_option linter.unusedVariables false
set_option linter.unusedSimpArgs false
namespace Go.Proofs.Ytfeiaibdnnhlaaa

/-- A contract as a plain function; which arguments' blocks go with the call. -/
structure Smr where
  own : List Bool
  run : (R : Type) → List AV → List AB → (AV → List AB → Option R) → Option R

def SmrOK (P : Program) (f : FuncId) (s : Smr) : Prop :=
  ∀ (R : Type) (args : List AV) (mem : List AB) (k : AV → List AB → Option R) (r : R), s.run R args mem k = some r → ∃ res mem1, Spec P f args mem res mem1 ∧ k res mem1 = some r

abbrev LSum := (R : Type) → TL → List AB → (Ex → TL → List AB → Option R) → Option R

structure CC where
  Γ : FuncId → Option Smr
  Λ : Nat → Option LSum
  dr : Nat → List DI
  mg : Nat → Option Tmp

def idsR (ρ : Rd) (u : List Nat) : List Nat := u.foldl (fun u b => match ρ.m b with | some (.sv cs) => idsAVs cs u | _ => u) u

def ownIds : List Bool → List AV → List Nat → List Nat
  | true :: fs, a :: as, u => ownIds fs as (idsAV a u)
  | false :: fs, _ :: as, u => ownIds fs as u
  | _, _, u => u

section
variable {R : Type}

/-- A block as it comes back. -/
def cinAB (ρ : Rd) (pure : Bool) (L : List Nat) (nx k : Nat) (x : AB) (K : AB → Option R) : Option R :=
  match x with
  | .ar e n xs => match L[k]? with
    | none => K (.ar e n xs)
    | some b => match ρ.m b with
      | some (.ar e0 n0 xs0) => chk (Nat.beq e e0) (chk (decide (xs0.length = xs.length)) (K (.ar e (n0 + 1) xs)))
      | _ => none
  | x => bi (inAB ρ pure L nx k x) K

theorem cinAB_eq {ρ : Rd} {pure : Bool} {L : List Nat} {nx k : Nat} {x : AB} {K : AB → Option R} {r : R} (h : cinAB ρ pure L nx k x K = some r) : ∃ y, inAB ρ pure L nx k x = some y ∧ K y = some r := by
  unfold cinAB at h
  split at h
  · split at h
    · rename_i hL
      exact ⟨_, by simp only [inAB, hL], h⟩
    · rename_i b hL
      split at h
      · rename_i hm
        obtain ⟨h1, h⟩ := chk_eq h
        obtain ⟨h2, h⟩ := chk_eq h
        have h1 := Nat.eq_of_beq_eq_true h1
        have h2 := of_decide_eq_true h2
        exact ⟨_, by simp only [inAB, hL, hm, h1, h2, and_self, if_true], h⟩
      · cases h
  · exact bi_eq h

def cinABs (ρ : Rd) (pure : Bool) (L : List Nat) (nx : Nat) : Nat → List AB → (List (Nat × AB) → Option R) → Option R
  | _, [], K => K []
  | k, x :: r, K => cinAB ρ pure L nx k x fun y => cinABs ρ pure L nx (k + 1) r fun l => K ((imp L nx k, y) :: l)

theorem cinABs_eq {ρ : Rd} {pure : Bool} {L : List Nat} {nx : Nat} {r : R} : ∀ {l : List AB} {k : Nat} {K : List (Nat × AB) → Option R}, cinABs ρ pure L nx k l K = some r → ∃ ws, inABs ρ pure L nx k l = some ws ∧ K ws = some r
  | [], k, K, h => ⟨[], rfl, h⟩
  | x :: l, k, K, h => by
    obtain ⟨y, h1, h⟩ := cinAB_eq h
    obtain ⟨ws, h2, h⟩ := cinABs_eq h
    exact ⟨_, by simp only [inABs, h1, h2, bi], h⟩

def cback (ρ : Rd) (pure : Bool) (L : List Nat) (nx : Nat) (k : KK1 R) (res : AV) (memR : List AB) : Option R :=
  match Nat.ble L.length memR.length with
  | true => bi (inAV pure L nx res) fun av => cinABs ρ pure L nx 0 memR fun ws => k av ws
  | false => none

def ccallL (ρ : Rd) (nx : Nat) (s : Smr) (as : List AV) (L : List Nat) (k : KK1 R) : Option R :=
  match nodupL L with
  | true => bi (outAVs ρ L as) fun as' => bi (omap (outAB ρ L) L) fun memL => s.run R (rsAVs memL as') (rsM memL memL) (cback ρ false L nx k)
  | false => none

def ccall (cc : CC) (ρ : Rd) (nx : Nat) (f : FuncId) (as : List AV) (k : KK1 R) : Option R :=
  match cc.Γ f with
  | none => none
  | some s => match s.own.any (fun b => b) with
    | false => match plainAs as with
      | true => s.run R as [] (cback ρ true [] nx k)
      | false => ccallL ρ nx s as [] k
    | true => ccallL ρ nx s as (idsR ρ (idsR ρ (ownIds s.own as []))) k

variable {P : Program} {tt : TypeId → Option TI} {cc : CC} {ρ : Rd} {nx : Nat}

theorem ccallL_eq {s : Smr} {f : FuncId} (hs : SmrOK P f s) {as : List AV} {L : List Nat} {k : KK1 R} {r : R} (h : ccallL ρ nx s as L k = some r) : ∃ av ws, Callable P f ∧ CallR P f ρ nx as av ws ∧ k av ws = some r := by
  unfold ccallL at h
  split at h
  · rename_i hn
    obtain ⟨as', h1, h⟩ := bi_eq h
    obtain ⟨memL, h2, h⟩ := bi_eq h
    obtain ⟨res, mem1, hsp, h⟩ := hs _ _ _ _ _ h
    have hsp := hsp.rs
    unfold cback at h
    split at h
    · rename_i hl
      obtain ⟨av, h3, h⟩ := bi_eq h
      obtain ⟨ws, h4, h⟩ := cinABs_eq h
      exact ⟨av, ws, hsp.1, ⟨false, L, as', memL, res, mem1, .inr ⟨rfl, hn, h1, h2⟩, hsp, Nat.le_of_ble_eq_true hl, h3, h4⟩, h⟩
    · cases h
  · cases h

theorem ccall_eq (hΓ : ∀ f s, cc.Γ f = some s → SmrOK P f s) {f : FuncId} {as : List AV} {k : KK1 R} {r : R} (h : ccall cc ρ nx f as k = some r) : ∃ av ws, Callable P f ∧ CallR P f ρ nx as av ws ∧ k av ws = some r := by
  unfold ccall at h
  split at h
  · cases h
  · rename_i s hs
    have hs := hΓ f s hs
    split at h
    · split at h
      · rename_i hp
        obtain ⟨res, mem1, hsp, h⟩ := hs _ _ _ _ _ h
        unfold cback at h
        split at h
        · rename_i hl
          obtain ⟨av, h3, h⟩ := bi_eq h
          obtain ⟨ws, h4, h⟩ := cinABs_eq h
          exact ⟨av, ws, hsp.1, ⟨true, [], as, [], res, mem1, .inl ⟨rfl, rfl, hp, rfl, rfl⟩, hsp, Nat.le_of_ble_eq_true hl, h3, h4⟩, h⟩
        · cases h
      · exact ccallL_eq hs h
    · exact ccallL_eq hs h

def copx (tt : TypeId → Option TI) (cc : CC) (ρ : Rd) (nx : Nat) (o : Op) (k : KK1 R) : Option R :=
  match o with
  | .call { callee := .value x, args, argTypes := _ } => bi (aeval ρ x) fun a => match a with
    | .fn f cap => bi (aevals ρ args.toList) fun as => ccall cc ρ nx f (as ++ cap) k
    | _ => none
  | o => cstep tt ρ nx o k

theorem copx_eq (hΓ : ∀ f s, cc.Γ f = some s → SmrOK P f s) {o : Op} {k : KK1 R} {r : R} (h : copx tt cc ρ nx o k = some r) : ∃ av ws, OpR P tt ρ nx o av ws ∧ k av ws = some r := by
  unfold copx at h
  split at h
  · obtain ⟨a, h1, h⟩ := bi_eq h
    split at h
    · obtain ⟨as, h2, h⟩ := bi_eq h
      obtain ⟨av, ws, h3, h4, h⟩ := ccall_eq hΓ h
      exact ⟨av, ws, .inr ⟨_, _, _, _, _, as, rfl, h1, h2, h3, h4⟩, h⟩
    · cases h
  · obtain ⟨av, ws, h1, h⟩ := cstep_eq h
    exact ⟨av, ws, .inl h1, h⟩

def usedG (i : Nat) (r : List Oper) : Bool := r.any fun o => match o.guard with
  | some (j, _) => Nat.beq j i
  | none => false

def cput (u : Bool) (av : AV) (k : AV → Option R) : Option R :=
  match u with
  | false => k av
  | true => match av with
    | .d (.bool b) => br b (k (.d (.bool true))) (k (.d (.bool false)))
    | a => k a

theorem cput_eq {u : Bool} {av : AV} {k : AV → Option R} {r : R} (h : cput u av k = some r) : k av = some r := by
  unfold cput at h
  split at h
  · exact h
  · split at h
    · rcases br_eq h with ⟨rfl, h⟩ | ⟨rfl, h⟩ <;> exact h
    · exact h

def putL (d : Option Tmp) (av : AV) (l : TL) : TL := match d with
  | some d => (d, av) :: l
  | none => l

/-- Nothing is written where nothing may be. -/
def noWs (pure : Bool) (ws : List (Nat × AB)) (x : Option R) : Option R := match pure, ws with
  | true, _ :: _ => none
  | _, _ => x

theorem noWs_eq {pure : Bool} {ws : List (Nat × AB)} {x : Option R} {r : R} (h : noWs pure ws x = some r) : x = some r ∧ (pure = true → ws = []) := by
  unfold noWs at h
  split at h
  · cases h
  · rename_i hn
    refine ⟨h, fun hp => ?_⟩
    cases ws with
    | nil => rfl
    | cons y l => exact absurd rfl (hn y l hp)

/-- The guard's look. -/
def gsel (ops : Array Oper) (ρ : Rd) (j : Nat) (want : Bool) (yes no : Option R) : Option R :=
  match bi ((ops[j]?).bind (·.dst)) fun t => ρ.t t with
  | some (.d (.bool b)) => match b == want with
    | true => yes
    | false => no
  | some .non => no
  | _ => none

theorem gsel_eq {ops : Array Oper} {j : Nat} {want : Bool} {yes no : Option R} {r : R} (h : gsel ops ρ j want yes no = some r) : ∃ b, guardV ρ ops j = some b ∧ ((b = some want ∧ yes = some r) ∨ (¬ b = some want ∧ no = some r)) := by
  unfold gsel at h
  split at h
  · rename_i b hb
    obtain ⟨t, h1, h2⟩ := bi_eq hb
    refine ⟨some b, by simp only [guardV, h1, bi, h2, guardA], ?_⟩
    split at h
    · rename_i hw
      exact .inl ⟨by rw [eq_of_beq hw], h⟩
    · rename_i hw
      refine .inr ⟨fun e => ?_, h⟩
      cases e
      simp at hw
  · rename_i hb
    obtain ⟨t, h1, h2⟩ := bi_eq hb
    exact ⟨none, by simp only [guardV, h1, bi, h2, guardA], .inr ⟨fun e => (by cases e), h⟩⟩
  · cases h

def cops (tt : TypeId → Option TI) (cc : CC) (n : Nat) (pure : Bool) (ops : Array Oper) : Nat → List Oper → TL → List AB → (TL → List AB → Option R) → Option R
  | _, [], l, m, k => k l m
  | i, o :: r, l, m, k =>
    match o.guard with
    | none => copx tt cc (rdS n l m) m.length o.op fun av ws => noWs pure ws (cput (usedG i r) av fun av => cops tt cc n pure ops (i + 1) r (putL o.dst av l) (appW ws m) k)
    | some (j, want) => gsel ops (rdS n l m) j want
        (copx tt cc (rdS n l m) m.length o.op fun av ws => noWs pure ws (cput (usedG i r) av fun av => cops tt cc n pure ops (i + 1) r (putL o.dst av l) (appW ws m) k))
        (cops tt cc n pure ops (i + 1) r (putL o.dst .non l) m k)

theorem S_app (n : Nat) (l : TL) (m : List AB) (d : Option Tmp) (av : AV) (ws : List (Nat × AB)) : (S n l m).app d av ws = S n (putL d av l) (appW ws m) := by
  cases d <;> rfl

theorem aget_putL (n : Nat) (l : TL) (d : Option Tmp) (av : AV) (j : Nat) (h : d ≠ some j) : aget n (putL d av l) j = aget n l j := by
  cases d with
  | none => rfl
  | some d =>
    simp only [putL, aget]
    have : Nat.beq d j = false := by
      cases hb : Nat.beq d j with
      | false => rfl
      | true => exact absurd (by rw [Nat.eq_of_beq_eq_true hb]) h
    rw [this]

/-- What a region without writes leaves. -/
def Leaves (n : Nat) (pure : Bool) (todo : List Oper) (l : TL) (m : List AB) (l' : TL) (m' : List AB) : Prop :=
  pure = true → m' = m ∧ ∀ j, (∀ o ∈ todo, o.dst ≠ some j) → aget n l' j = aget n l j

theorem cops_sound (hΓ : ∀ f s, cc.Γ f = some s → SmrOK P f s) {n : Nat} {pure : Bool} {ops : Array Oper} {k : TL → List AB → Option R} {r : R} : ∀ (todo : List Oper) {i : Nat} {l : TL} {m : List AB}, cops tt cc n pure ops i todo l m k = some r →
    aops P tt ops todo (S n l m) fun τ => ∃ l' m', τ = S n l' m' ∧ k l' m' = some r ∧ Leaves n pure todo l m l' m'
  | [], i, l, m, h => ⟨l, m, rfl, h, fun _ => ⟨rfl, fun _ _ => rfl⟩⟩
  | o :: t, i, l, m, h => by
    have yes : ∀ {l m}, (copx tt cc (rdS n l m) m.length o.op fun av ws => noWs pure ws (cput (usedG i t) av fun av => cops tt cc n pure ops (i + 1) t (putL o.dst av l) (appW ws m) k)) = some r →
        ∃ av ws, OpR P tt (S n l m).rd (S n l m).mem.length o.op av ws ∧ aops P tt ops t ((S n l m).app o.dst av ws) fun τ => ∃ l' m', τ = S n l' m' ∧ k l' m' = some r ∧ Leaves n pure (o :: t) l m l' m' := by
      intro l m h
      obtain ⟨av, ws, h1, h⟩ := copx_eq hΓ h
      obtain ⟨h, hp⟩ := noWs_eq h
      have h := cops_sound hΓ t (cput_eq h)
      refine ⟨av, ws, by rw [S_rd]; exact h1, ?_⟩
      rw [S_app]
      refine aops_mono ?_ h
      rintro τ ⟨l', m', rfl, h2, h3⟩
      refine ⟨l', m', rfl, h2, fun hpp => ?_⟩
      obtain ⟨h4, h5⟩ := h3 hpp
      have hw := hp hpp
      subst hw
      refine ⟨h4, fun j hj => ?_⟩
      rw [h5 j (fun o' ho' => hj o' (List.mem_cons_of_mem _ ho')), aget_putL _ _ _ _ _ (hj o (List.mem_cons_self ..))]
    unfold cops at h
    simp only [aops]
    split at h
    · rename_i hg
      rw [hg]
      exact yes h
    · rename_i j want hg
      rw [hg]
      obtain ⟨b, hb, h⟩ := gsel_eq h
      simp only [S_rd, hb]
      rcases h with ⟨rfl, h⟩ | ⟨hne, h⟩
      · rw [if_pos rfl]
        obtain ⟨av, ws, h1, h2⟩ := yes h
        exact ⟨av, ws, by rw [S_rd] at h1; exact h1, h2⟩
      · rw [if_neg hne, S_app]
        refine aops_mono ?_ (cops_sound hΓ t h)
        rintro τ ⟨l', m', rfl, h2, h3⟩
        refine ⟨l', m', rfl, h2, fun hpp => ?_⟩
        obtain ⟨h4, h5⟩ := h3 hpp
        refine ⟨h4, fun j hj => ?_⟩
        rw [h5 j (fun o' ho' => hj o' (List.mem_cons_of_mem _ ho')), aget_putL _ _ _ _ _ (hj o (List.mem_cons_self ..))]

def cdr (tt : TypeId → Option TI) (cc : CC) (n : Nat) (pure : Bool) (ops : Array Oper) (l : TL) (m : List AB) : Nat → List DI → List Oper → List (Nat × Eff) → (List (Nat × Eff) → Option R) → Option R
  | _, _, [], E, k => k E
  | _, [], _ :: _, _, _ => none
  | i, di :: D, o :: r, E, k =>
    match o.guard with
    | none => copx tt cc (rdD n l m di E) (m.length + di.off) o.op fun av ws => noWs pure ws (cput (usedG i r) av fun av => cdr tt cc n pure ops l m (i + 1) D r ((di.i, ⟨o.dst, av, ws⟩) :: E) k)
    | some (j, want) => gsel ops (rdD n l m di E) j want
        (copx tt cc (rdD n l m di E) (m.length + di.off) o.op fun av ws => noWs pure ws (cput (usedG i r) av fun av => cdr tt cc n pure ops l m (i + 1) D r ((di.i, ⟨o.dst, av, ws⟩) :: E) k))
        (cdr tt cc n pure ops l m (i + 1) D r ((di.i, ⟨o.dst, .non, []⟩) :: E) k)

theorem cdr_sound (hΓ : ∀ f s, cc.Γ f = some s → SmrOK P f s) {n : Nat} {pure : Bool} {ops : Array Oper} {l : TL} {m : List AB} {k : List (Nat × Eff) → Option R} {r : R} : ∀ (todo : List Oper) {i : Nat} {D : List DI} {E : List (Nat × Eff)}, cdr tt cc n pure ops l m i D todo E k = some r →
    dW P tt ops n l m D todo E fun E' => k E' = some r ∧ ∀ x ∈ E', x ∈ E ∨ ((pure = true → x.2.ws = []) ∧ ∃ o ∈ todo, x.2.dst = o.dst)
  | [], i, D, E, h => by
    have h' : k E = some r ∧ ∀ x ∈ E, x ∈ E ∨ ((pure = true → x.2.ws = []) ∧ ∃ o ∈ ([] : List Oper), x.2.dst = o.dst) := ⟨by cases D <;> simpa only [cdr] using h, fun x hx => .inl hx⟩
    exact d_nil h'
  | o :: t, i, [], E, h => by cases h
  | o :: t, i, di :: D, E, h => by
    have step : ∀ {av ws}, (pure = true → ws = []) → dW P tt ops n l m D t ((di.i, ⟨o.dst, av, ws⟩) :: E) (fun E' => k E' = some r ∧ ∀ x ∈ E', x ∈ ((di.i, (⟨o.dst, av, ws⟩ : Eff)) :: E) ∨ ((pure = true → x.2.ws = []) ∧ ∃ o ∈ t, x.2.dst = o.dst)) →
        dW P tt ops n l m D t ((di.i, ⟨o.dst, av, ws⟩) :: E) (fun E' => k E' = some r ∧ ∀ x ∈ E', x ∈ E ∨ ((pure = true → x.2.ws = []) ∧ ∃ o' ∈ o :: t, x.2.dst = o'.dst)) := by
      intro av ws hp h
      refine dW_mono ?_ _ _ _ h
      rintro E' ⟨h1, h2⟩
      refine ⟨h1, fun x hx => ?_⟩
      rcases h2 x hx with h3 | ⟨h3, o', ho', h4⟩
      · rcases List.mem_cons.1 h3 with rfl | h3
        · exact .inr ⟨hp, o, List.mem_cons_self .., rfl⟩
        · exact .inl h3
      · exact .inr ⟨h3, o', List.mem_cons_of_mem _ ho', h4⟩
    unfold cdr at h
    split at h
    · rename_i hg
      obtain ⟨av, ws, h1, h⟩ := copx_eq hΓ h
      obtain ⟨h, hp⟩ := noWs_eq h
      exact d_any (e := ⟨o.dst, av, ws⟩) ⟨rfl, by rw [hg]; exact h1⟩ (step hp (cdr_sound hΓ t (cput_eq h)))
    · rename_i j want hg
      obtain ⟨b, hb, h⟩ := gsel_eq h
      rcases h with ⟨rfl, h⟩ | ⟨hne, h⟩
      · obtain ⟨av, ws, h1, h⟩ := copx_eq hΓ h
        obtain ⟨h, hp⟩ := noWs_eq h
        exact d_any (e := ⟨o.dst, av, ws⟩) ⟨rfl, by rw [hg]; exact ⟨_, hb, by rw [if_pos rfl]; exact h1⟩⟩ (step hp (cdr_sound hΓ t (cput_eq h)))
      · exact d_any (e := ⟨o.dst, .non, []⟩) ⟨rfl, by rw [hg]; exact ⟨_, hb, by rw [if_neg hne]; exact ⟨rfl, rfl⟩⟩⟩ (step (fun _ => rfl) (cdr_sound hΓ t h))

end
end Go.Proofs.Ytfeiaibdnnhlaaa
