import Derived.Test.Ytfeiaibdnnhlaaat1
/- Rules of the walk through the abstract interpreter. -/
set_option linter.unusedSectionVars false
set_option linter.unusedVariables false
set_option linter.unusedSimpArgs false
namespace Go.Proofs.Ytfeiaibdnnhlaaa


theorem aops_mono {P : Program} {tt : TypeId → Option TI} {ops : Array Oper} {k k' : AS → Prop} (hk : ∀ τ, k τ → k' τ) : ∀ {l : List Oper} {σ : AS}, aops P tt ops l σ k → aops P tt ops l σ k'
  | [], σ, h => hk σ h
  | o :: l, σ, h => by
    simp only [aops] at h ⊢
    split at h
    · obtain ⟨av, ws, h1, h2⟩ := h
      exact ⟨av, ws, h1, aops_mono hk h2⟩
    · split at h
      · exact h.elim
      · split at h
        · rename_i hb
          rw [if_pos hb]
          obtain ⟨av, ws, h1, h2⟩ := h
          exact ⟨av, ws, h1, aops_mono hk h2⟩
        · rename_i hb
          rw [if_neg hb]
          exact aops_mono hk h

theorem aloop_mono {n0 : Nat} {body : AS → (Ex → AS → Prop) → Prop} (hb : ∀ (σ : AS) (Q Q' : Ex → AS → Prop), (∀ e τ, Q e τ → Q' e τ) → body σ Q → body σ Q') {Q Q' : Ex → AS → Prop} (hq : ∀ e τ, Q e τ → Q' e τ) : ∀ {n : Nat} {σ : AS}, aloop n0 body n σ Q → aloop n0 body n σ Q'
  | 0, _, h => h.elim
  | n + 1, σ, h => by
    obtain ⟨K, live, h1, h2⟩ := h
    refine ⟨K, live, h1, hb _ _ _ ?_ h2⟩
    intro e τ h
    cases e with
    | normal => exact aloop_mono (body := body) hb hq h
    | exit id => exact hq _ _ h
    | ret => exact hq _ _ h

theorem awp_mono {P : Program} {tt : TypeId → Option TI} {n0 : Nat} : ∀ (c : Code) {σ : AS} {Q Q' : Ex → AS → Prop}, (∀ e τ, Q e τ → Q' e τ) → awp P tt n0 c σ Q → awp P tt n0 c σ Q'
  | .skip, σ, Q, Q', hq, h => hq _ _ h
  | .seq x y, σ, Q, Q', hq, h => by
    refine awp_mono x ?_ h
    intro e τ h
    cases e with
    | normal => exact awp_mono y hq h
    | exit id => exact hq _ _ h
    | ret => exact hq _ _ h
  | .region _ ops draw, σ, Q, Q', hq, h => by
    simp only [awp] at h ⊢
    split at h
    · rename_i hd
      rw [if_pos hd]
      obtain ⟨E, pre, D, hk⟩ := h
      exact ⟨E, pre, D, hq _ _ hk⟩
    · rename_i hd
      rw [if_neg hd]
      exact aops_mono (fun τ => hq _ τ) h
  | .cond c x y, σ, Q, Q', hq, h => by
    simp only [awp] at h ⊢
    split at h
    · split at h
      · rename_i hb
        rw [if_pos hb]; exact awp_mono x hq h
      · rename_i hb
        rw [if_neg hb]; exact awp_mono y hq h
    · exact h.elim
  | .block id c, σ, Q, Q', hq, h => by
    simp only [awp] at h ⊢
    refine awp_mono c ?_ h
    intro e τ h
    split at h
    · rename_i he; rw [if_pos he]; exact hq _ _ h
    · rename_i he; rw [if_neg he]; exact hq _ _ h
  | .exit id, σ, Q, Q', hq, h => hq _ _ h
  | .ret, σ, Q, Q', hq, h => hq _ _ h
  | .loop c, σ, Q, Q', hq, h => by
    simp only [awp] at h ⊢
    obtain ⟨n, h⟩ := h
    exact ⟨n, aloop_mono (body := awp P tt n0 c) (fun _ _ _ hq h => awp_mono c hq h) hq h⟩
  | .scope _, _, _, _, _, h => h.elim
  | .label _, _, _, _, _, h => h.elim
  | .goto _, _, _, _, _, h => h.elim
  | .refuse _, _, _, _, _, h => h.elim

def qSeq (P : Program) (tt : TypeId → Option TI) (n0 : Nat) (y : Code) (Q : Ex → AS → Prop) : Ex → AS → Prop := fun e τ => match e with
  | .normal => awp P tt n0 y τ Q
  | e => Q e τ

def qBlk (id : Nat) (Q : Ex → AS → Prop) : Ex → AS → Prop := fun e τ => if e = .exit id then Q .normal τ else Q e τ

def qReg (Q : Ex → AS → Prop) : AS → Prop := fun τ => Q .normal τ

/-- At the end of a round of a loop. -/
def qFor (n0 : Nat) (live : List Nat) (m : Nat) (I : Nat → Prop) (st : Nat → AS) (i : Nat) (Q : Ex → AS → Prop) : Ex → AS → Prop := fun e τ => match e with
  | .normal => i < m ∧ I (i + 1) ∧ ∃ K, gcOK n0 K τ.mem = true ∧ τ.gc K live = st (i + 1)
  | e => Q e τ

/-- Temporaries: the last write comes first. -/
def mkT (n : Nat) : List (Nat × AV) → List AV
  | [] => List.replicate n .undef
  | x :: l => (mkT n l).set x.1 x.2

def S (n : Nat) (l : List (Nat × AV)) (m : List AB) : AS := ⟨mkT n l, m⟩

def aget (n : Nat) : List (Nat × AV) → Nat → Option AV
  | [], i => match Nat.blt i n with
    | true => some .undef
    | false => none
  | (j, v) :: l, i => match Nat.beq j i with
    | true => match Nat.blt i n with
      | true => some v
      | false => none
    | false => aget n l i

theorem mkT_len (n : Nat) : ∀ l, (mkT n l).length = n
  | [] => by simp [mkT]
  | x :: l => by simp [mkT, mkT_len n l]

theorem mkT_get (n : Nat) : ∀ (l : List (Nat × AV)) (i : Nat), (mkT n l)[i]? = aget n l i
  | [], i => by
    simp only [mkT, aget, List.getElem?_replicate]
    cases h : Nat.blt i n with
    | true => rw [if_pos (by simpa [Nat.blt_eq] using h)]
    | false => rw [if_neg (by intro h'; rw [← Nat.blt_eq] at h'; rw [h'] at h; cases h)]
  | x :: l, i => by
    simp only [mkT, aget, List.getElem?_set, mkT_len, mkT_get n l i]
    cases h : Nat.beq x.1 i with
    | true =>
      have : x.1 = i := Nat.eq_of_beq_eq_true h
      subst this
      simp only [if_true]
      cases h : Nat.blt x.1 n with
      | true => rw [if_pos (by simpa [Nat.blt_eq] using h)]
      | false => rw [if_neg (by intro h'; rw [← Nat.blt_eq] at h'; rw [h'] at h; cases h)]
    | false =>
      rw [if_neg (Nat.ne_of_beq_eq_false h)]

def rdS (n : Nat) (l : List (Nat × AV)) (m : List AB) : Rd := { t := fun i => defA (aget n l i), m := fun b => defB (lk m b) }

theorem S_rd (n : Nat) (l : List (Nat × AV)) (m : List AB) : (S n l m).rd = rdS n l m := by
  simp only [S, AS.rd, rdS, mkT_get]

/-- The byte at a place. -/
def bAt (s : ByteArray) (i : Nat) : Int := ((s[i]?.getD 0).toNat : Int)

theorem wrap_id {n : Int} (h : -9223372036854775808 ≤ n) (h' : n < 9223372036854775808) : IntKind.i64.wrap n = n := by
  rw [IntKind.wrap_i64]
  first | omega | (simp only []; omega) | (split <;> omega)

section
variable {P : Program} {tt : TypeId → Option TI} {n0 : Nat} {σ τ : AS} {Q : Ex → AS → Prop} {x y c : Code} {id : Nat} {ops : Array Oper} {k : AS → Prop} {o : Oper} {r : List Oper} {n : Nat} {l : List (Nat × AV)} {m m' : List AB}

theorem w_seq (h : awp P tt n0 x σ (qSeq P tt n0 y Q)) : awp P tt n0 (.seq x y) σ Q := h
theorem w_skip (h : Q .normal σ) : awp P tt n0 .skip σ Q := h
theorem w_exit (h : Q (.exit id) σ) : awp P tt n0 (.exit id) σ Q := h
theorem w_ret (h : Q .ret σ) : awp P tt n0 .ret σ Q := h
theorem w_block (h : awp P tt n0 x σ (qBlk id Q)) : awp P tt n0 (.block id x) σ Q := h
theorem w_region {i : Nat} (h : aops P tt ops ops.toList σ (qReg Q)) : awp P tt n0 (.region i ops false) σ Q := by
  simp only [awp, Bool.false_eq_true, if_false]; exact h
theorem w_cond {v : Operand} {b : Bool} (hv : aeval (rdS n l m) v = some (.d (.bool b))) (h1 : b = true → awp P tt n0 x (S n l m) Q) (h2 : b = false → awp P tt n0 y (S n l m) Q) : awp P tt n0 (.cond v x y) (S n l m) Q := by
  simp only [awp, S_rd, hv]; cases b with
  | true => exact h1 rfl
  | false => exact h2 rfl
theorem w_cond_t {v : Operand} (hv : aeval (rdS n l m) v = some (.d (.bool true))) (h1 : awp P tt n0 x (S n l m) Q) : awp P tt n0 (.cond v x y) (S n l m) Q :=
  w_cond hv (fun _ => h1) nofun
theorem w_cond_f {v : Operand} (hv : aeval (rdS n l m) v = some (.d (.bool false))) (h1 : awp P tt n0 y (S n l m) Q) : awp P tt n0 (.cond v x y) (S n l m) Q :=
  w_cond hv nofun (fun _ => h1)
theorem q_seq_n (h : awp P tt n0 y τ Q) : qSeq P tt n0 y Q .normal τ := h
theorem q_seq_e (h : Q (.exit id) τ) : qSeq P tt n0 y Q (.exit id) τ := h
theorem q_seq_r (h : Q .ret τ) : qSeq P tt n0 y Q .ret τ := h
theorem q_blk_n (h : Q .normal τ) : qBlk id Q .normal τ := by simp only [qBlk, reduceCtorEq, if_false]; exact h
theorem q_blk_r (h : Q .ret τ) : qBlk id Q .ret τ := by simp only [qBlk, reduceCtorEq, if_false]; exact h
theorem q_blk_t (h : Q .normal τ) : qBlk id Q (.exit id) τ := by simp only [qBlk, if_true]; exact h
theorem q_blk_f {i : Nat} (hi : (i == id) = false) (h : Q (.exit i) τ) : qBlk id Q (.exit i) τ := by
  have : ¬ Ex.exit i = Ex.exit id := fun e => by cases e; simp at hi
  simp only [qBlk, this, if_false]; exact h
theorem q_reg (h : Q .normal τ) : qReg Q τ := h
theorem a_nil (h : k τ) : aops P tt ops [] τ k := h

/-- Operations whose value needs no tidying. -/
def easyOp : Op → Bool
  | .move _ => true
  | .assign _ => true
  | .pick _ _ _ => true
  | .binOp _ _ _ _ _ => true
  | .unOp _ _ _ => true
  | .convert _ _ _ => true
  | .extract _ _ => true
  | .nilCheck _ => true
  | .index _ _ _ => true
  | .call { callee := .builtin .len, .. } => true
  | _ => false

/-- An operation that writes no block. -/
theorem a_easy {d : Tmp} {av : AV} (hg : o.guard = none) (hd : o.dst = some d) (he : easyOp o.op = true) (h : astep tt (rdS n l m) m.length o.op = some (av, [])) (hk : aops P tt ops r (S n ((d, av) :: l) m) k) : aops P tt ops (o :: r) (S n l m) k := by
  simp only [aops, hg, S_rd]; exact ⟨av, [], .inl h, by rw [hd]; exact hk⟩
/-- An operation with a rule of its own. -/
theorem a_op {op : Op} {d : Tmp} {av : AV} (ho : o.op = op) (hg : o.guard = none) (hd : o.dst = some d) (h : astep tt (rdS n l m) m.length op = some (av, [])) (hk : aops P tt ops r (S n ((d, av) :: l) m) k) : aops P tt ops (o :: r) (S n l m) k := by
  subst ho; simp only [aops, hg, S_rd]; exact ⟨av, [], .inl h, by rw [hd]; exact hk⟩
theorem a_rule {d : Tmp} {av : AV} (hg : o.guard = none) (hd : o.dst = some d) (h : astep tt (rdS n l m) m.length o.op = some (av, [])) (hk : aops P tt ops r (S n ((d, av) :: l) m) k) : aops P tt ops (o :: r) (S n l m) k := by
  simp only [aops, hg, S_rd]; exact ⟨av, [], .inl h, by rw [hd]; exact hk⟩
theorem a_tidy {d : Tmp} {av av' : AV} (hg : o.guard = none) (hd : o.dst = some d) (h : astep tt (rdS n l m) m.length o.op = some (av, [])) (ha : av = av') (hk : aops P tt ops r (S n ((d, av') :: l) m) k) : aops P tt ops (o :: r) (S n l m) k := by
  subst ha; exact a_rule hg hd h hk
/-- A store. -/
theorem a_store {av : AV} {ws : List (Nat × AB)} (hg : o.guard = none) (hd : o.dst = none) (h : astep tt (rdS n l m) m.length o.op = some (av, ws)) (hm : appW ws m = m') (hk : aops P tt ops r (S n l m') k) : aops P tt ops (o :: r) (S n l m) k := by
  subst hm; simp only [aops, hg, S_rd]; exact ⟨av, ws, .inl h, by rw [hd]; exact hk⟩
theorem a_write {d : Tmp} {av av' : AV} {ws : List (Nat × AB)} (hg : o.guard = none) (hd : o.dst = some d) (h : astep tt (rdS n l m) m.length o.op = some (av, ws)) (hm : (av, appW ws m) = (av', m')) (hk : aops P tt ops r (S n ((d, av') :: l) m') k) : aops P tt ops (o :: r) (S n l m) k := by
  cases hm; simp only [aops, hg, S_rd]; exact ⟨av, ws, .inl h, by rw [hd]; exact hk⟩
/-- A call. -/
theorem a_call {d : Tmp} {av av' : AV} {ws : List (Nat × AB)} {v : Operand} {args : Array Operand} {ts : Array TypeId} {f : FuncId} {cap as : List AV} (hg : o.guard = none) (hd : o.dst = some d) (ho : o.op = .call { callee := .value v, args := args, argTypes := ts }) (hx : aeval (rdS n l m) v = some (.fn f cap)) (ha : aevals (rdS n l m) args.toList = some as)
    (hc : Callable P f ∧ CallR P f (rdS n l m) m.length (as ++ cap) av ws) (hm : (av, appW ws m) = (av', m')) (hk : aops P tt ops r (S n ((d, av') :: l) m') k) : aops P tt ops (o :: r) (S n l m) k := by
  cases hm; simp only [aops, hg, S_rd]; exact ⟨av, ws, .inr ⟨v, args, ts, f, cap, as, ho, hx, ha, hc.1, hc.2⟩, by rw [hd]; exact hk⟩
theorem a_call0 {av : AV} {ws : List (Nat × AB)} {v : Operand} {args : Array Operand} {ts : Array TypeId} {f : FuncId} {cap as : List AV} (hg : o.guard = none) (hd : o.dst = none) (ho : o.op = .call { callee := .value v, args := args, argTypes := ts }) (hx : aeval (rdS n l m) v = some (.fn f cap)) (ha : aevals (rdS n l m) args.toList = some as)
    (hc : Callable P f ∧ CallR P f (rdS n l m) m.length (as ++ cap) av ws) (hm : appW ws m = m') (hk : aops P tt ops r (S n l m') k) : aops P tt ops (o :: r) (S n l m) k := by
  subst hm; simp only [aops, hg, S_rd]; exact ⟨av, ws, .inr ⟨v, args, ts, f, cap, as, ho, hx, ha, hc.1, hc.2⟩, by rw [hd]; exact hk⟩

theorem mkT_same {t : Tmp} {a : AV} (h : (rdS n l m).t t = some a) : mkT n ((t, a) :: l) = mkT n l := by
  have h1 : (mkT n l)[t]? = some a := by
    rw [mkT_get]
    simp only [rdS] at h
    revert h
    generalize aget n l t = x
    intro h
    unfold defA at h
    split at h
    · cases h
    · exact h
  obtain ⟨h1, h2⟩ := List.getElem?_eq_some_iff.1 h1
  simp only [mkT]
  rw [← h2, List.set_getElem_self]

theorem S_same {t : Tmp} {a : AV} (h : (rdS n l m).t t = some a) : S n ((t, a) :: l) m = S n l m := by
  simp only [S, mkT_same h]

/-- An operation under a guard that is met behaves as one without; what the guard says is put into its temporary. -/
theorem a_guard {j : Nat} {want b : Bool} {t d : Tmp} (hg : o.guard = some (j, want)) (hd : o.dst = some d) (ht : (ops[j]?).bind (·.dst) = some t) (hb : (rdS n l m).t t = some (.d (.bool b)))
    (h1 : b = want → aops P tt ops ({ o with guard := none } :: r) (S n ((t, .d (.bool want)) :: l) m) k)
    (h2 : b = !want → aops P tt ops r (S n ((d, .non) :: (t, .d (.bool !want)) :: l) m) k) : aops P tt ops (o :: r) (S n l m) k := by
  have hb' : guardV (rdS n l m) ops j = some (some b) := by simp only [guardV, ht, bi, hb, guardA]
  have hs := S_same hb
  simp only [aops, hg, S_rd, hb', Option.some.injEq]
  by_cases h : b = want
  · rw [if_pos h]
    have h1 := h1 h
    rw [← h, hs] at h1
    simpa only [aops, S_rd] using h1
  · rw [if_neg h]
    have hn : b = !want := by cases b <;> cases want <;> simp_all
    have h2 := h2 hn
    rw [← hn] at h2
    have e : (S n l m).app o.dst .non [] = S n ((d, .non) :: (t, .d (.bool b)) :: l) m := by
      have := mkT_same hb
      simp only [mkT] at this
      rw [hd]; simp only [S, mkT, AS.app, putT, appW, List.foldl, this]
    rw [e]; exact h2
theorem a_guard_y {j : Nat} {want : Bool} {t : Tmp} (hg : o.guard = some (j, want)) (ht : (ops[j]?).bind (·.dst) = some t) (hb : (rdS n l m).t t = some (.d (.bool want)))
    (h1 : aops P tt ops ({ o with guard := none } :: r) (S n l m) k) : aops P tt ops (o :: r) (S n l m) k := by
  have hb' : guardV (rdS n l m) ops j = some (some want) := by simp only [guardV, ht, bi, hb, guardA]
  simp only [aops, hg, S_rd, hb', if_true]
  simpa only [aops, S_rd] using h1
theorem a_guard_n {j : Nat} {want : Bool} {t d : Tmp} (hg : o.guard = some (j, want)) (hd : o.dst = some d) (ht : (ops[j]?).bind (·.dst) = some t) (hb : (rdS n l m).t t = some (.d (.bool !want)))
    (h2 : aops P tt ops r (S n ((d, .non) :: l) m) k) : aops P tt ops (o :: r) (S n l m) k := by
  have hb' : guardV (rdS n l m) ops j = some (some (!want)) := by simp only [guardV, ht, bi, hb, guardA]
  have : ¬ (!want) = want := by cases want <;> decide
  simp only [aops, hg, S_rd, hb', Option.some.injEq, if_neg this]
  rw [hd]; exact h2
/-- The guard itself was skipped. -/
theorem a_guard_s {j : Nat} {want : Bool} {t d : Tmp} (hg : o.guard = some (j, want)) (hd : o.dst = some d) (ht : (ops[j]?).bind (·.dst) = some t) (hb : (rdS n l m).t t = some .non)
    (h2 : aops P tt ops r (S n ((d, .non) :: l) m) k) : aops P tt ops (o :: r) (S n l m) k := by
  have hb' : guardV (rdS n l m) ops j = some none := by simp only [guardV, ht, bi, hb, guardA]
  simp only [aops, hg, S_rd, hb', reduceCtorEq, if_false]
  rw [hd]; exact h2

theorem call_p {f : FuncId} {as : List AV} {res av : AV} {mem1 : List AB} {ws : List (Nat × AB)} {ρ : Rd} {nx : Nat} (hs : Spec P f as [] res mem1) (hp : plainAs as = true) (hi : inAV true [] nx res = some av) (hw : inABs ρ true [] nx 0 mem1 = some ws) :
    Callable P f ∧ CallR P f ρ nx as av ws := ⟨hs.1, true, [], as, [], res, mem1, .inl ⟨rfl, rfl, hp, rfl, rfl⟩, hs, Nat.zero_le _, hi, hw⟩
theorem call_o (L : List Nat) {f : FuncId} {as as' : List AV} {res av : AV} {memL mem1 : List AB} {ws : List (Nat × AB)} {ρ : Rd} {nx : Nat} (hs : Spec P f as' memL res mem1) (hn : nodupL L = true) (ho : outAVs ρ L as = some as') (hm : omap (outAB ρ L) L = some memL) (hl : L.length ≤ mem1.length) (hi : inAV false L nx res = some av) (hw : inABs ρ false L nx 0 mem1 = some ws) :
    Callable P f ∧ CallR P f ρ nx as av ws := ⟨hs.1, false, L, as', memL, res, mem1, .inr ⟨rfl, hn, ho, hm⟩, hs, hl, hi, hw⟩

theorem q_for_n {live : List Nat} {M : Nat} {I : Nat → Prop} {st : Nat → AS} {i : Nat} (K : List Nat) (h1 : i < M) (h2 : I (i + 1)) (h3 : gcOK n0 K τ.mem = true) (h4 : τ.gc K live = st (i + 1)) : qFor n0 live M I st i Q .normal τ := ⟨h1, h2, K, h3, h4⟩
theorem q_for_e {live : List Nat} {M : Nat} {I : Nat → Prop} {st : Nat → AS} {i : Nat} (h : Q (.exit id) τ) : qFor n0 live M I st i Q (.exit id) τ := h
theorem q_for_r {live : List Nat} {M : Nat} {I : Nat → Prop} {st : Nat → AS} {i : Nat} (h : Q .ret τ) : qFor n0 live M I st i Q .ret τ := h

/-- A loop of at most M rounds and the last look. -/
theorem w_for (live : List Nat) (M : Nat) (I : Nat → Prop) (st : Nat → AS) (K : List Nat) (h1 : gcOK n0 K σ.mem = true) (h2 : σ.gc K live = st 0) (h3 : I 0)
    (hb : ∀ i, i ≤ M → I i → awp P tt n0 c (st i) (qFor n0 live M I st i Q)) : awp P tt n0 (.loop c) σ Q := by
  have go : ∀ (d i : Nat) (σ : AS) (K : List Nat), i + d = M → I i → gcOK n0 K σ.mem = true → σ.gc K live = st i → aloop n0 (awp P tt n0 c) (d + 1) σ Q := by
    intro d
    induction d with
    | zero =>
      intro i σ K hi hI hk hg
      refine ⟨K, live, hk, ?_⟩
      rw [hg]
      refine awp_mono c ?_ (hb i (by omega) hI)
      intro e τ h
      cases e with
      | normal => obtain ⟨h, _⟩ := h; omega
      | exit id => exact h
      | ret => exact h
    | succ d ih =>
      intro i σ K hi hI hk hg
      refine ⟨K, live, hk, ?_⟩
      rw [hg]
      refine awp_mono c ?_ (hb i (by omega) hI)
      intro e τ h
      cases e with
      | normal =>
        obtain ⟨_, hI', K', hk', hg'⟩ := h
        exact ih (i + 1) τ K' (by omega) hI' hk' hg'
      | exit id => exact h
      | ret => exact h
  exact ⟨M + 1, go M 0 σ K (by omega) h3 h1 h2⟩

/-- What is left of the temporaries at the head of a loop. -/
def gcL (K : List Nat) : List Nat → List (Nat × AV) → List (Nat × AV)
  | [], _ => []
  | t :: ts, l => match l.lookup t with
    | some a => (t, gcAV K a) :: gcL K ts l
    | none => gcL K ts l

theorem aget_lookup (n : Nat) : ∀ (l : List (Nat × AV)) (i : Nat), aget n l i = if i < n then some ((l.lookup i).getD .undef) else none
  | [], i => by
    simp only [aget, List.lookup_nil, Option.getD_none]
    cases h : Nat.blt i n with
    | true => rw [if_pos (by simpa [Nat.blt_eq] using h)]
    | false => rw [if_neg (by intro h'; rw [← Nat.blt_eq] at h'; rw [h'] at h; cases h)]
  | x :: l, i => by
    simp only [aget, List.lookup]
    cases h : Nat.beq x.1 i with
    | true =>
      have : x.1 = i := Nat.eq_of_beq_eq_true h
      subst this
      simp only [beq_self_eq_true, Option.getD_some]
      cases h : Nat.blt x.1 n with
      | true => rw [if_pos (by simpa [Nat.blt_eq] using h)]
      | false => rw [if_neg (by intro h'; rw [← Nat.blt_eq] at h'; rw [h'] at h; cases h)]
    | false =>
      have : (i == x.1) = false := by
        have := Nat.ne_of_beq_eq_false h
        simp; omega
      simp only [this]
      exact aget_lookup n l i

theorem gcL_lookup {K : List Nat} {l : List (Nat × AV)} : ∀ (ts : List Nat) (i : Nat), (gcL K ts l).lookup i = if ts.contains i then (l.lookup i).map (gcAV K) else none
  | [], i => rfl
  | t :: ts, i => by
    unfold gcL
    by_cases h : i = t
    · subst h
      cases hl : l.lookup i with
      | none =>
        simp only [gcL_lookup ts i, hl, List.contains_cons, beq_self_eq_true, Bool.true_or, if_true, Option.map_none, ite_self]
      | some a => simp [List.lookup, hl]
    · have h' : (i == t) = false := by simpa using h
      cases hl : l.lookup t with
      | none => simp only [gcL_lookup ts i, List.contains_cons, h', Bool.false_or]
      | some a => simp only [List.lookup, h', gcL_lookup ts i, List.contains_cons, Bool.false_or]

theorem gc_S (K live : List Nat) : (S n l m).gc K live = S n (gcL K live l) (gcM K m K) := by
  unfold S AS.gc
  congr 1
  apply List.ext_getElem?
  intro i
  rw [(gcT_get _ 0).2 i, mkT_get, mkT_get, aget_lookup, aget_lookup, gcL_lookup, Nat.zero_add]
  by_cases h : i < n
  · simp only [h, if_true, Option.map_some]
    by_cases hc : live.contains i = true
    · simp only [hc, if_true]
      cases l.lookup i <;> simp [gcAV]
    · simp only [hc, if_false, Option.getD_none, Bool.false_eq_true]
  · simp only [h, if_false, Option.map_none]

end

mutual
/-- The blocks that a value names, one after the other. -/
def idsAV : AV → List Nat → List Nat
  | .sl b, u => if u.contains b then u else u ++ [b]
  | .ref b _, u => if u.contains b then u else u ++ [b]
  | .el b _ _, u => if u.contains b then u else u ++ [b]
  | .agg cs, u => idsAVs cs u
  | .tup cs, u => idsAVs cs u
  | .fn _ cs, u => idsAVs cs u
  | _, u => u
def idsAVs : List AV → List Nat → List Nat
  | [], u => u
  | a :: l, u => idsAVs l (idsAV a u)
end

def idsM (mem : List AB) : Nat → List Nat → List Nat
  | 0, u => u
  | n + 1, u => idsM mem n (u.foldl (fun u b => match lk mem b with
    | .sv cs => idsAVs cs u
    | _ => u) u)

def keepOf (n0 : Nat) (av : AV) (mem : List AB) : List Nat := idsM mem 3 (idsAV av (List.range n0))

section
variable {tt : TypeId → Option TI} {n0 n : Nat} {l : List (Nat × AV)} {m : List AB} {rs : List ResultVar} {res av : AV} {mem1 : List AB}
theorem e_n {av' : AV} {K : List Nat} (h1 : ares tt (rdS n l m) rs = some av) (ht : av = av') (hK : keepOf n0 av' m = K) (h2 : gcOK n0 K m = true) (h3 : gcAV K av' = res) (h4 : gcM K m K = mem1) : AEnd tt n0 rs res mem1 .normal (S n l m) :=
  ⟨.inl rfl, av, K, by rw [S_rd]; exact h1, h2, by rw [ht]; exact h3, h4⟩
theorem e_r {av' : AV} {K : List Nat} (h1 : ares tt (rdS n l m) rs = some av) (ht : av = av') (hK : keepOf n0 av' m = K) (h2 : gcOK n0 K m = true) (h3 : gcAV K av' = res) (h4 : gcM K m K = mem1) : AEnd tt n0 rs res mem1 .ret (S n l m) :=
  ⟨.inr rfl, av, K, by rw [S_rd]; exact h1, h2, by rw [ht]; exact h3, h4⟩
theorem lk_zero (x : AB) (m : List AB) : lk (x :: m) 0 = x := rfl
theorem lk_succ (x : AB) (m : List AB) (i : Nat) : lk (x :: m) (i + 1) = lk m i := rfl
end

/-- The temporaries at the entry. -/
def argL : Nat → List AV → List (Nat × AV)
  | _, [] => []
  | i, a :: l => (i, a) :: argL (i + 1) l

theorem argL_lookup : ∀ (as : List AV) (j i : Nat), (argL j as).lookup i = if j ≤ i then as[i - j]? else none
  | [], j, i => by simp [argL]
  | a :: as, j, i => by
    simp only [argL, List.lookup]
    by_cases h : i = j
    · subst h; simp
    · have h' : (i == j) = false := by simpa using h
      simp only [h', argL_lookup as (j + 1) i]
      by_cases hj : j ≤ i
      · rw [if_pos (by omega), if_pos hj]
        have : i - j = (i - (j + 1)) + 1 := by omega
        rw [this, List.getElem?_cons_succ]
      · rw [if_neg (by omega), if_neg hj]

theorem spec_of' {P : Program} {tt : TypeId → Option TI} (hT : TTok P tt) (hM : P.follows .mixedOrders = true) {f : FuncId} {fn : Func} {c : Code} {n : Nat} (hf : P.funcs[f]? = some fn) (hb : fn.body = some c) (hn : (fn.name == "runtime.NumGoroutine") = false) {args : List AV} {mem : List AB} {res : AV} {mem1 : List AB}
    (hm : fn.ntmps = n) (hl : args.length ≤ n) (h : awp P tt mem.length c (S n (argL 0 args) mem) (AEnd tt mem.length fn.results.toList res mem1)) : Spec P f args mem res mem1 := by
  refine spec_of hT hM hf hb hn ?_
  have : args ++ List.replicate (fn.ntmps - args.length) .undef = mkT n (argL 0 args) := by
    apply List.ext_getElem?
    intro i
    rw [mkT_get, aget_lookup, argL_lookup, hm, List.getElem?_append, List.getElem?_replicate]
    simp only [Nat.zero_le, if_true, Nat.sub_zero]
    by_cases hi : i < args.length
    · rw [if_pos hi, if_pos (by omega), List.getElem?_eq_getElem hi]; rfl
    · rw [if_neg hi, List.getElem?_eq_none (by omega)]
      by_cases hi' : i < n
      · rw [if_pos (by omega), if_pos hi']; rfl
      · rw [if_neg (by omega), if_neg hi']
  rw [this]; exact h

theorem bi_some' {α β : Type} (a : α) (f : α → Option β) : bi (some a) f = f a := rfl

section
variable {tt : TypeId → Option TI} {ρ : Rd} {nx : Nat}

theorem r_add {t u : TypeId} {x y : Operand} {a b : Int} (hx : aeval ρ x = some (.d (.int .i64 a))) (hy : aeval ρ y = some (.d (.int .i64 b))) (h : -9223372036854775808 ≤ a + b) (h' : a + b < 9223372036854775808) :
    astep tt ρ nx (.binOp .add t x y u) = some (.d (.int .i64 (a + b)), []) := by
  simp only [astep, hx, hy, bi, abinOp, aintOp, wrap_id h h', beq_self_eq_true, Bool.or_true, if_true]
theorem r_sub {t u : TypeId} {x y : Operand} {a b : Int} (hx : aeval ρ x = some (.d (.int .i64 a))) (hy : aeval ρ y = some (.d (.int .i64 b))) (h : -9223372036854775808 ≤ a - b) (h' : a - b < 9223372036854775808) :
    astep tt ρ nx (.binOp .sub t x y u) = some (.d (.int .i64 (a - b)), []) := by
  simp only [astep, hx, hy, bi, abinOp, aintOp, wrap_id h h', beq_self_eq_true, Bool.or_true, if_true]

theorem bAt_get {s : ByteArray} {n : Nat} (h : n < s.size) : bi s[n]? (fun c => some (AV.d (.int .u8 c.toNat), ([] : List (Nat × AB)))) = some (.d (.int .u8 (bAt s n)), []) := by
  have h1 : s[n]? = some s[n] := getElem?_pos s n h
  simp only [bi, bAt, h1, Option.getD_some]

theorem r_sidx' {t : TypeId} {x ix : Operand} {i : TI} {s : ByteArray} {k : IntKind} {n : Nat} (ht : tt t = some i) (hu : i.ud = .string) (hx : aeval ρ x = some (.d (.str s))) (hi : aeval ρ ix = some (.d (.int k (n : Int)))) (h1 : n < s.size) :
    astep tt ρ nx (.index t x ix) = some (.d (.int .u8 (bAt s n)), []) := by
  have h0 : (0 : Int) ≤ n := by omega
  simp only [astep, ht, bi_some', hu, hx, hi, aint, h0, if_true, Int.toNat_natCast]
  exact bAt_get h1

theorem r_sidx {t : TypeId} {x ix : Operand} {i : TI} {s : ByteArray} {k : IntKind} {n : Int} (ht : tt t = some i) (hu : i.ud = .string) (hx : aeval ρ x = some (.d (.str s))) (hi : aeval ρ ix = some (.d (.int k n))) (h0 : 0 ≤ n) (h1 : n.toNat < s.size) :
    astep tt ρ nx (.index t x ix) = some (.d (.int .u8 (bAt s n.toNat)), []) := by
  simp only [astep, ht, bi_some', hu, hx, hi, aint, h0, if_true]
  exact bAt_get h1
end

attribute [irreducible] qSeq qBlk qReg qFor

end Go.Proofs.Ytfeiaibdnnhlaaa
