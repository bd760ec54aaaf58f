import Derived.Test.Ytfeiaibdnnhlaaaf
/- The abstract interpreter, part 7: arithmetic, comparisons, conversions, builds. -/
set_option linter.unusedSectionVars false
set_option linter.unusedVariables false
set_option linter.unusedSimpArgs false
namespace Go.Proofs.Ytfeiaibdnnhlaaa

section
variable {P : Program} {tt : TypeId → Option TI} (hT : TTok P tt) {σ : AS} {w : World} {g : Gh}
include hT

omit hT in
theorem RA_d {mem : List AB} {p : PV} {v : Value} (h : RA w g mem (.d p) v) : RO w g.ok p v := by cases h with | d _ _ h => exact h

theorem intOp_run {op : BinOp} {t : TypeId} {x y : Operand} {k k' : IntKind} {a b : Int} {p : PV} (hk : (isShift op || k == k') = true) (h : aintOp op k a b = some p) :
    ∃ v, ((do eqGuard op t x y (.int k a) (.int k' b); binOp op t (.int k a) (.int k' b) : Sem Value)).run P w = .ok v w ∧ ∀ ok, RO w ok p v := by
  have hg : eqGuard op t x y (.int k a) (.int k' b) = pure () := eqGuard_at_int op t x y _ k a
  rw [hg]
  simp only [Sem.run_bind, Sem.run_pure, Result.andThen_ok]
  cases op <;> simp only [aintOp] at h <;> (try (cases h; done)) <;> simp only [isShift, Bool.false_or, Bool.true_or, beq_iff_eq] at hk <;> (try subst hk)
  case quo | rem =>
    split at h
    · cases h
    · rename_i hb
      cases h
      simp only [binOp, Op.intDiv, ne_eq, not_true_eq_false, if_false, if_neg hb]
      exact ⟨_, rfl, fun _ => .int _ _⟩
  case shl | shr =>
    split at h
    · cases h
    · rename_i hb
      cases h
      simp only [binOp, Op.shift, if_neg hb]
      exact ⟨_, rfl, fun _ => .int _ _⟩
  all_goals
    cases h
    simp only [binOp, Op.intArith, Op.intCmp, Op.intBits, ne_eq, not_true_eq_false, if_false]
    first
      | exact ⟨_, rfl, fun _ => .int _ _⟩
      | exact ⟨_, rfl, fun _ => .bool _⟩

omit hT in
theorem toList_eq (a b : ByteArray) : (a.toList == b.toList) = decide (a = b) := by
  rw [Bool.eq_iff_iff, beq_iff_eq, decide_eq_true_iff, ByteArray.toList_eq, ByteArray.toList_eq]
  obtain ⟨⟨x⟩⟩ := a
  obtain ⟨⟨y⟩⟩ := b
  simp

theorem strOp_run {op : BinOp} {t : TypeId} {x y : Operand} {a b : ByteArray} {p : PV} (h : astrOp op a b = some p) :
    ∃ v, ((do eqGuard op t x y (.string a) (.string b); binOp op t (.string a) (.string b) : Sem Value)).run P w = .ok v w ∧ ∀ ok, RO w ok p v := by
  have hg : eqGuard op t x y (.string a) (.string b) = pure () := eqGuard_at_string op t x y _ a
  rw [hg]
  simp only [Sem.run_bind, Sem.run_pure, Result.andThen_ok]
  cases op <;> simp only [astrOp] at h <;> (try (cases h; done))
  case add =>
    split at h
    · cases h
    · rename_i hb
      cases h
      simp only [binOp, Op.stringOp, if_neg hb]
      exact ⟨_, rfl, fun _ => .str _⟩
  all_goals
    cases h
    simp only [binOp, Op.stringOp, toList_eq]
    exact ⟨_, rfl, fun _ => .bool _⟩

/-- A value of a type out of its cells. -/
def mkV (P : Program) (t : TypeId) (us : List Value) : Value :=
  match P.underlying t with
  | some (.struct _) => .agg us.toArray
  | _ => us.headD undef

omit hT in
theorem aeqC_len : ∀ {ks : List KK} {xs ys : List AV} {r : Bool}, aeqC ks xs ys = some r → xs.length = ks.length ∧ ys.length = ks.length
  | [], [], [], _, _ => ⟨rfl, rfl⟩
  | k :: ks, x :: xs, y :: ys, r, h => by
    simp only [aeqC] at h
    obtain ⟨b, _, h⟩ := bi_eq h
    obtain ⟨r', h', _⟩ := bi_eq h
    have := aeqC_len h'
    simp [this.1, this.2]
  | [], x :: xs, ys, r, h => by cases ys <;> cases h
  | [], [], y :: ys, r, h => by cases h
  | k :: ks, [], ys, r, h => by cases ys <;> cases h
  | k :: ks, x :: xs, [], r, h => by cases h

omit hT in
theorem aeqC_append : ∀ {k1 k2 : List KK} {xs ys : List AV} {r : Bool}, aeqC (k1 ++ k2) xs ys = some r →
    ∃ r1 r2, aeqC k1 (xs.take k1.length) (ys.take k1.length) = some r1 ∧ aeqC k2 (xs.drop k1.length) (ys.drop k1.length) = some r2 ∧ r = (r1 && r2)
  | [], k2, xs, ys, r, h => ⟨true, r, by simp [aeqC], by simpa using h, by simp⟩
  | k :: k1, k2, x :: xs, y :: ys, r, h => by
    simp only [List.cons_append, aeqC] at h
    obtain ⟨b, hb, h⟩ := bi_eq h
    obtain ⟨r', h', h⟩ := bi_eq h
    cases h
    obtain ⟨r1, r2, a1, a2, a3⟩ := aeqC_append h'
    exact ⟨b && r1, r2, by simp [aeqC, hb, bi, a1], by simpa using a2, by rw [a3, Bool.and_assoc]⟩
  | k :: ks, k2, [], ys, r, h => by cases ys <;> cases h
  | k :: ks, k2, x :: xs, [], r, h => by cases h

def AllRA (w : World) (g : Gh) (mem : List AB) (xs : List AV) (us : List Value) : Prop :=
  xs.length = us.length ∧ ∀ (i : Nat) (c : AV) (u : Value), xs[i]? = some c → us[i]? = some u → RA w g mem c u

omit hT in
theorem AllRA.drop {mem : List AB} {xs : List AV} {us : List Value} (h : AllRA w g mem xs us) (n : Nat) : AllRA w g mem (xs.drop n) (us.drop n) :=
  ⟨by simp [h.1], fun i c u a b => h.2 (n + i) c u (by rwa [List.getElem?_drop] at a) (by rwa [List.getElem?_drop] at b)⟩

omit hT in
theorem AllRA.take {mem : List AB} {xs : List AV} {us : List Value} (h : AllRA w g mem xs us) (n : Nat) : AllRA w g mem (xs.take n) (us.take n) :=
  ⟨by simp [h.1], fun i c u a b => by
    rw [List.getElem?_take] at a b
    split at a
    · rename_i hi; rw [if_pos hi] at b; exact h.2 i c u a b
    · cases a⟩

omit hT in
theorem AllRA.one {mem : List AB} {x : AV} {us : List Value} (h : AllRA w g mem [x] us) : ∃ u, us = [u] ∧ RA w g mem x u := by
  obtain ⟨h1, h2⟩ := h
  cases us with
  | nil => simp at h1
  | cons u us =>
    cases us with
    | nil => exact ⟨u, rfl, h2 0 x u rfl rfl⟩
    | cons v us => simp at h1

omit hT in
theorem flatK_part {d : Nat} {t : TypeId} {ks : List KK} (h : flatK P d t = some ks) {us : List Value} {off : Nat} (hle : off + ks.length ≤ us.length) :
    (part t us.toArray off).run P w = .ok (mkV P t ((us.drop off).take ks.length)) w := by
  cases d with
  | zero => cases h
  | succ d =>
    simp only [flatK] at h
    cases hi : P.info? t with
    | none => rw [hi] at h; cases h
    | some i =>
      rw [hi] at h
      simp only [] at h
      have hone : ∀ (k : KK) (dd : TypeDesc), P.underlying t = some dd → (∀ F, dd ≠ .struct F) → (∀ n e, dd ≠ .array n e) → ks = [k] → (part t us.toArray off).run P w = .ok (mkV P t ((us.drop off).take ks.length)) w := by
        intro k dd hu h1 h2 hk
        subst hk
        have hlt : off < us.length := hle
        have hagg : (isAgg t).run P w = .ok false w := by
          simp only [isAgg, run_underlying hu, Sem.run_bind, Result.andThen_ok]
          cases dd with
          | struct F => exact absurd rfl (h1 F)
          | array n e => exact absurd rfl (h2 n e)
          | _ => rfl
        have hv : mkV P t ((us.drop off).take [k].length) = us[off] := by
          unfold mkV
          rw [hu]
          cases dd with
          | struct F => exact absurd rfl (h1 F)
          | _ => show ((us.drop off).take 1).headD undef = _; rw [List.drop_eq_getElem_cons hlt]; rfl
        rw [hv]
        simp [part, hagg, hlt]
      cases hu : P.underlying t with
      | none => rw [hu] at h; cases h
      | some dd =>
        rw [hu] at h
        cases dd with
        | bool => simp only [] at h; split at h <;> cases h; exact hone .bool _ hu (fun _ => TypeDesc.noConfusion) (fun _ _ => TypeDesc.noConfusion) rfl
        | int k => simp only [] at h; split at h <;> cases h; exact hone (.int k) _ hu (fun _ => TypeDesc.noConfusion) (fun _ _ => TypeDesc.noConfusion) rfl
        | string => simp only [] at h; split at h <;> cases h; exact hone .str _ hu (fun _ => TypeDesc.noConfusion) (fun _ _ => TypeDesc.noConfusion) rfl
        | struct F =>
          simp only [] at h
          split at h
          · cases h
          · split at h
            · cases h
            · rename_i ks' _
              split at h
              · rename_i hsz
                cases h
                have hsz : i.size = ks.length := by simpa using hsz
                have hagg : (isAgg t).run P w = .ok true w := by simp [isAgg, run_underlying hu]
                simp only [part, hagg, Sem.run_bind, Result.andThen_ok, if_true, sizeOf, typeInfo, run_program, hi, Sem.run_pure, mkV, hu]
                rw [hsz]
                congr 2
                apply Array.ext'
                simp
              · cases h
        | _ => cases h

omit hT in
theorem flatK_eq : ∀ (d : Nat) (t : TypeId) (ks : List KK) (D : Nat), flatK P d t = some ks → d ≤ D → ∀ {mem : List AB} (xs ys : List AV) (us vs : List Value) (r : Bool),
    AllRA w g mem xs us → AllRA w g mem ys vs → aeqC ks xs ys = some r → (Op.equalIn D t (mkV P t us) (mkV P t vs)).run P w = .ok r w
  | 0, t, ks, D, h, _, _, _, _, _, _, _, _, _, _ => by cases h
  | d + 1, t, ks, D, h, hD, mem, xs, ys, us, vs, r, hx, hy, hr => by
    obtain ⟨D, rfl⟩ : ∃ D', D = D' + 1 := ⟨D - 1, by omega⟩
    simp only [flatK] at h
    cases hi : P.info? t with
    | none => rw [hi] at h; cases h
    | some i =>
      rw [hi] at h
      simp only [] at h
      have hlen := aeqC_len hr
      have hone : ∀ k : KK, ks = [k] → ∃ x y u v, xs = [x] ∧ ys = [y] ∧ us = [u] ∧ vs = [v] ∧ RA w g mem x u ∧ RA w g mem y v ∧ eqK k x y = some r := by
        intro k hk
        subst hk
        match xs, ys, hlen with
        | [x], [y], _ =>
          obtain ⟨u, hu, hu'⟩ := hx.one
          obtain ⟨v, hv, hv'⟩ := hy.one
          refine ⟨x, y, u, v, rfl, rfl, hu, hv, hu', hv', ?_⟩
          simp only [aeqC] at hr
          obtain ⟨b, hb, hr⟩ := bi_eq hr
          obtain ⟨r', hr', hr⟩ := bi_eq hr
          cases hr'
          cases hr
          simpa using hb
      cases hu : P.underlying t with
      | none => rw [hu] at h; cases h
      | some dd =>
        rw [hu] at h
        cases dd with
        | bool =>
          simp only [] at h
          split at h <;> cases h
          obtain ⟨x, y, u, v, rfl, rfl, rfl, rfl, a1, a2, a3⟩ := hone .bool rfl
          unfold eqK at a3
          split at a3 <;> first | (rename_i e; cases e; done) | skip
          · cases a3
            cases RA_d a1
            cases RA_d a2
            simp only [mkV, hu, List.headD_cons]
            rw [run_equalIn_bool' w D t _ _ hu]
          · cases a3
        | int k =>
          simp only [] at h
          split at h <;> cases h
          obtain ⟨x, y, u, v, rfl, rfl, rfl, rfl, a1, a2, a3⟩ := hone (.int k) rfl
          unfold eqK at a3
          split at a3 <;> first | (rename_i e; cases e; done) | skip
          · rename_i e
            cases e
            split at a3
            · rename_i hk
              cases a3
              cases RA_d a1
              cases RA_d a2
              simp only [mkV, hu, List.headD_cons, hk.1, hk.2]
              rw [run_equalIn_int w D t _ _ _ _ hu]
            · cases a3
          · cases a3
        | string =>
          simp only [] at h
          split at h <;> cases h
          obtain ⟨x, y, u, v, rfl, rfl, rfl, rfl, a1, a2, a3⟩ := hone .str rfl
          unfold eqK at a3
          split at a3 <;> first | (rename_i e; cases e; done) | skip
          · cases a3
            cases RA_d a1
            cases RA_d a2
            simp only [mkV, hu, List.headD_cons]
            rw [run_equalIn_string w D t _ _ hu, toList_eq]
          · cases a3
        | struct F =>
          simp only [] at h
          split at h
          · cases h
          · rename_i hst
            split at h
            · cases h
            · rename_i ks' hfs
              split at h
              · rename_i hsz
                cases h
                have hfo : P.fieldsOf t = F := by simp [Program.fieldsOf, hu]
                simp only [mkV, hu]
                rw [run_equalIn_struct w D t _ _ (by rw [hfo]; exact hu) (by simpa using hst), hfo]
                have inner : ∀ (fs : List Field) (off : Nat) (ks : List KK) (r : Bool), off ≤ xs.length → off ≤ ys.length → flatFs (flatK P d) fs off = some ks → aeqC ks (xs.drop off) (ys.drop off) = some r →
                    (Op.eqFields D us.toArray vs.toArray fs).run P w = .ok r w := by
                  intro fs
                  induction fs with
                  | nil =>
                    intro off ks r _ _ h1 h2
                    cases h1
                    have := aeqC_len h2
                    have e1 : xs.drop off = [] := List.eq_nil_of_length_eq_zero this.1
                    have e2 : ys.drop off = [] := List.eq_nil_of_length_eq_zero this.2
                    rw [e1, e2] at h2
                    cases h2
                    rfl
                  | cons f fs ih =>
                    intro off ks r o1 o2 h1 h2
                    simp only [flatFs] at h1
                    split at h1
                    · cases h1
                    · rename_i hc
                      simp only [Bool.or_eq_true, not_or, beq_iff_eq, bne_iff_ne, ne_eq, Decidable.not_not] at hc
                      split at h1
                      · cases h1
                      · rename_i k1 hk1
                        split at h1
                        · cases h1
                        · rename_i k2 hk2
                          cases h1
                          obtain ⟨r1, r2, a1, a2, a3⟩ := aeqC_append h2
                          rw [List.drop_drop] at a2
                          rw [List.drop_drop] at a2
                          have hl := aeqC_len h2
                          have hlx : off + k1.length ≤ us.length := by
                            have := hl.1; rw [List.length_drop, List.length_append] at this; rw [← hx.1]; omega
                          have hly : off + k1.length ≤ vs.length := by
                            have := hl.2; rw [List.length_drop, List.length_append] at this; rw [← hy.1]; omega
                          have p1 := flatK_part (w := w) hk1 hlx
                          have p2 := flatK_part (w := w) hk1 hly
                          have q := flatK_eq d f.type k1 D hk1 (by omega) _ _ _ _ r1 ((hx.drop off).take k1.length) ((hy.drop off).take k1.length) a1
                          have q2 := ih (off + k1.length) k2 r2 (by rw [hx.1]; exact hlx) (by rw [hy.1]; exact hly) hk2 a2
                          simp only [Op.eqFields, hc.2, p1, p2, Sem.run_ite, Sem.run_bind, Result.andThen_ok, q]
                          rw [if_pos hc.1, a3]
                          cases r1
                          · simp
                          · simpa using q2
                exact inner F.toList 0 ks r (Nat.zero_le _) (Nat.zero_le _) hfs (by simpa using hr)
              · cases h
        | _ => cases h

theorem binOp_run {op : BinOp} {t : TypeId} {x y : Operand} {a b : AV} {p : PV} {u v : Value} {mem : List AB} (ha : RA w g mem a u) (hb : RA w g mem b v) (h : abinOp tt op t a b = some p) :
    ∃ z, ((do eqGuard op t x y u v; binOp op t u v : Sem Value)).run P w = .ok z w ∧ RA w g mem (.d p) z := by
  unfold abinOp at h
  split at h
  · split at h
    · rename_i hk
      cases RA_d ha
      cases RA_d hb
      obtain ⟨z, h1, h2⟩ := intOp_run hT (x := x) (y := y) (t := t) hk h
      exact ⟨z, h1, .d _ _ (h2 _)⟩
    · cases h
  · cases RA_d ha
    cases RA_d hb
    obtain ⟨z, h1, h2⟩ := strOp_run hT (x := x) (y := y) (t := t) h
    exact ⟨z, h1, .d _ _ (h2 _)⟩
  · rename_i a b
    split at h
    · rename_i i ht
      split at h
      · rename_i hu
        obtain ⟨ti, _, _, _, _, h5, _⟩ := hT t i ht
        rw [hu] at h5
        cases RA_d ha
        cases RA_d hb
        have hg : eqGuard op t x y (.bool a) (.bool b) = pure () := eqGuard_at_bool op t x y _ a
        rw [hg]
        have he := run_equalIn_bool' (P := P) w 9999 t a b h5
        split at h
        · cases h
          refine ⟨.bool (a == b), ?_, .d _ _ (.bool _)⟩
          simp only [Sem.run_bind, Sem.run_pure, Result.andThen_ok, binOp, Op.equal, Op.maxDepth]
          rw [he]; rfl
        · cases h
          refine ⟨.bool (!(a == b)), ?_, .d _ _ (.bool _)⟩
          simp only [Sem.run_bind, Sem.run_pure, Result.andThen_ok, binOp, Op.equal, Op.maxDepth]
          rw [he]; rfl
        · cases h
      · cases h
    · cases h
  · rename_i xs ys
    split at h
    · rename_i i ht
      split at h
      · rename_i fs hud
        split at h
        · rename_i ks hk
          split at h
          · rename_i r hr
            obtain ⟨F, hF, _⟩ := und_struct hT ht hud
            obtain ⟨ti, h1, h2, _, _, h5, h6⟩ := hT t i ht
            obtain ⟨h7, h8⟩ := h6 ks hk
            cases ha with
            | agg _ us hl hone hA =>
              cases hb with
              | agg _ vs hl' hone' hB =>
                have he := flatK_eq (w := w) 8 t ks 10000 h7 (by omega) xs ys us.toList vs.toList r ⟨by simpa using hl, fun i c u a b => hA i c u a (by simpa using b)⟩ ⟨by simpa using hl', fun i c u a b => hB i c u a (by simpa using b)⟩ hr
                simp only [mkV, hF] at he
                have hg := run_eqGuard_agg (P := P) w op t x y us vs h8
                split at h
                · cases h
                  refine ⟨.bool r, ?_, .d _ _ (.bool _)⟩
                  simp only [Sem.run_bind, hg, Result.andThen_ok, run_eql_struct]
                  rw [show us = us.toList.toArray from rfl, show vs = vs.toList.toArray from rfl, he]; rfl
                · cases h
                  refine ⟨.bool (!r), ?_, .d _ _ (.bool _)⟩
                  simp only [Sem.run_bind, hg, Result.andThen_ok, run_neq_struct]
                  rw [show us = us.toList.toArray from rfl, show vs = vs.toList.toArray from rfl, he]; rfl
                · cases h
          · cases h
        · cases h
      · cases h
    · cases h
  · cases h

end
end Go.Proofs.Ytfeiaibdnnhlaaa
