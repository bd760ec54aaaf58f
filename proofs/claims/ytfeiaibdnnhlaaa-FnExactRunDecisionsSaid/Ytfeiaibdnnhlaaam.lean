import Derived.Test.Ytfeiaibdnnhlaaal
/- The abstract interpreter, part 13: the theorem on one operation. -/
set_option linter.unusedSectionVars false
set_option linter.unusedVariables false
set_option linter.unusedSimpArgs false
namespace Go.Proofs.Ytfeiaibdnnhlaaa

section
variable {P : Program} {tt : TypeId → Option TI} (hT : TTok P tt) {σ : AS} {w : World} {g : Gh} {a : Act} (hr : Rel σ w g a)
include hT hr

omit hT hr in
theorem RA_str {mem : List AB} {s : ByteArray} {v : Value} (h : RA w g mem (.d (.str s)) v) : v = .string s := by cases RA_d h; rfl
omit hT hr in
theorem RA_bool {mem : List AB} {b : Bool} {v : Value} (h : RA w g mem (.d (.bool b)) v) : v = .bool b := by cases RA_d h; rfl
omit hT in
theorem asInt_run {x : Operand} {av : AV} {n : IntKind × Int} (hx : aeval σ.rd x = some av) (hn : aint av = some n) : a.eval x = .int n.1 n.2 ∧ av = .d (.int n.1 n.2) := by
  have := aeval_sound hr hx
  unfold aint at hn
  split at hn
  · cases hn; exact ⟨RA_int this, rfl⟩
  · cases hn

theorem op_len {o : Oper} {x : Operand} {t : TypeId} {nx : Nat} {av : AV} {ws : List (Nat × AB)} (ho : o.op = .call { callee := .builtin .len, args := #[x], argTypes := #[t] })
    (h : astep tt σ.rd nx (.call { callee := .builtin .len, args := #[x], argTypes := #[t] }) = some (av, ws)) : OpOK P σ w g a o av ws := by
  simp only [astep] at h
  obtain ⟨i, ht, h⟩ := bi_eq h
  obtain ⟨b, hx, h⟩ := bi_eq h
  have hA := aeval_sound hr hx
  have run : ∀ (v : Value) (z : Value), a.eval x = v → (Builtin.len_ #[t] o.type #[v]).run P w = .ok z w → (execOp a.eval o).run P w = .ok (.value z) w := by
    intro v z hv hl
    simp only [execOp, ho, resolve, invoke, builtin, Sem.run_bind, Sem.run_pure, Result.andThen_ok, List.map_toArray, List.map_cons, List.map_nil, hv, hl]
  split at h
  · rename_i s hu
    cases h
    have hun := und_string hT ht hu
    refine pureOp hr.mem (run _ (goInt s.size) (RA_str hA) ?_) (.d _ _ (.int _ _))
    simp [Builtin.len_, run_underlying hun]
  · cases h
  · have hu := ‹i.ud = UD.slice _›
    obtain ⟨xs, hxs, h⟩ := bi_eq h
    cases h
    have hun := und_slice hT ht hu
    obtain ⟨base, cap, hv, _⟩ := alist_run hr.mem hA hxs
    refine pureOp hr.mem (run _ (goInt xs.length) hv ?_) (.d _ _ (.int _ _))
    simp [Builtin.len_, run_underlying hun]
  · cases h

theorem op_append {o : Oper} {s x : Operand} {t u : TypeId} {nx : Nat} (hnx : lk σ.mem nx = .fut) {av : AV} {ws : List (Nat × AB)} (ho : o.op = .call { callee := .builtin .append, args := #[s, x], argTypes := #[t, u] })
    (h : astep tt σ.rd nx (.call { callee := .builtin .append, args := #[s, x], argTypes := #[t, u] }) = some (av, ws)) : OpOK P σ w g a o av ws := by
  simp only [astep] at h
  split at h
  · rename_i htu
    subst htu
    obtain ⟨i, ht, h⟩ := bi_eq h
    split at h
    · rename_i e hu
      obtain ⟨j, he, h⟩ := bi_eq h
      obtain ⟨z, hz, h⟩ := bi_eq h
      obtain ⟨av1, hs, h⟩ := bi_eq h
      obtain ⟨av2, hx, h⟩ := bi_eq h
      obtain ⟨v, w', g', h1, h2, h3⟩ := aappend_run (ty := o.type) hT hr.mem ht hu he hz hnx (aeval_sound hr hs) (aeval_sound hr hx) h
      refine ⟨_, v, w', g', ?_, .inl rfl, h2, h3⟩
      simp only [execOp, ho, resolve, invoke, builtin, Sem.run_bind, Sem.run_pure, Result.andThen_ok, List.map_toArray, List.map_cons, List.map_nil, h1]
    · cases h
  · cases h

theorem op_minmax {o : Oper} {x y : Operand} {ts : Array TypeId} {nx : Nat} {av : AV} {ws : List (Nat × AB)} (m : Bool) (ho : o.op = .call { callee := .builtin (if m then .max else .min), args := #[x, y], argTypes := ts })
    (h : astep tt σ.rd nx (.call { callee := .builtin (if m then .max else .min), args := #[x, y], argTypes := ts }) = some (av, ws)) : OpOK P σ w g a o av ws := by
  cases m
  · simp only [if_false, Bool.false_eq_true] at h ho
    simp only [astep] at h
    obtain ⟨av1, h1, h⟩ := bi_eq h
    obtain ⟨av2, h2, h⟩ := bi_eq h
    obtain ⟨r, h3, h⟩ := bi_eq h
    cases h
    obtain ⟨z, hz, hA⟩ := (min_run (P := P) hT hr (aeval_sound hr h1) (aeval_sound hr h2) h3).1 rfl ts o.type
    refine pureOp hr.mem ?_ hA
    simp only [execOp, ho, resolve, invoke, builtin, Sem.run_bind, Sem.run_pure, Result.andThen_ok, List.map_toArray, List.map_cons, List.map_nil, hz]
  · simp only [if_true] at h ho
    simp only [astep] at h
    obtain ⟨av1, h1, h⟩ := bi_eq h
    obtain ⟨av2, h2, h⟩ := bi_eq h
    obtain ⟨r, h3, h⟩ := bi_eq h
    cases h
    obtain ⟨z, hz, hA⟩ := (min_run (P := P) hT hr (aeval_sound hr h1) (aeval_sound hr h2) h3).2 rfl ts o.type
    refine pureOp hr.mem ?_ hA
    simp only [execOp, ho, resolve, invoke, builtin, Sem.run_bind, Sem.run_pure, Result.andThen_ok, List.map_toArray, List.map_cons, List.map_nil, hz]

omit hr in
theorem field_run {s : TypeId} {i j : TI} {fs : List (Nat × TypeId)} {f off : Nat} {t : TypeId} (hs : tt s = some i) (hu : i.ud = .struct fs) (hf : fs[f]? = some (off, t)) (ht : tt t = some j)
    {b r : AV} {v : Value} (ha : RA w g σ.mem b v) (h : afield i j off b = some r) : ∃ u, (Instr.field s v f).run P w = .ok u w ∧ RA w g σ.mem r u := by
  obtain ⟨F, hF, hfs⟩ := und_struct hT hs hu
  have hFf : ∃ fl, F[f]? = some fl ∧ fl.offset = off ∧ fl.type = t := by
    rw [← hfs, List.getElem?_map] at hf
    cases hL : F.toList[f]? with
    | none => rw [hL] at hf; cases hf
    | some fl => rw [hL] at hf; cases hf; exact ⟨fl, by simpa using hL, rfl, rfl⟩
  obtain ⟨fl, h1, h2, h3⟩ := hFf
  unfold afield at h
  split at h
  · rename_i cs
    split at h
    · rename_i sz hsz
      obtain ⟨g1, g2⟩ := isAgg_run hT ht hsz w
      cases ha with
      | agg _ vs hl hone hA =>
        cases sz with
        | none =>
          simp only [pickC] at h
          have hlt : off < vs.size := by
            rw [← hl]
            rcases Nat.lt_or_ge off cs.length with h' | h'
            · exact h'
            · rw [List.getElem?_eq_none h'] at h; cases h
          refine ⟨vs[off], ?_, hA off r _ h (Array.getElem?_eq_getElem hlt)⟩
          simp [Instr.field, run_underlying hF, h1, h2, h3, asAgg, part, g1, hlt]
        | some n =>
          simp only [pickC] at h
          split at h
          · rename_i hle
            cases h
            refine ⟨.agg (vs.extract off (off + n)), ?_, .agg _ _ ?_ (fun u hu => ?_) (fun k c u hc hu => ?_)⟩
            · simp [Instr.field, run_underlying hF, h1, h2, h3, asAgg, part, g1, g2 n rfl]
            · simp; omega
            · refine hone u ?_
              simp only [Array.toList_extract, List.extract_eq_take_drop] at hu
              exact List.mem_of_mem_drop (List.mem_of_mem_take hu)
            · rw [List.getElem?_take] at hc
              split at hc
              · rename_i hk
                rw [List.getElem?_drop] at hc
                refine hA _ c u hc ?_
                rw [Array.getElem?_extract] at hu
                split at hu
                · exact hu
                · cases hu
              · cases hc
          · cases h
    · cases h
  · cases h

theorem lohi_run {lo : Option Operand} {l : Option Int} (h : (match lo with | none => some none | some l => bi (aeval σ.rd l) fun l => bi (aint l) fun l => some (some l.2)) = some l) :
    (lo.map a.eval = none ∧ l = none) ∨ ∃ k i, lo.map a.eval = some (.int k i) ∧ l = some i := by
  cases lo with
  | none => cases h; exact .inl ⟨rfl, rfl⟩
  | some x =>
    obtain ⟨b, h1, h⟩ := bi_eq h
    obtain ⟨n, h2, h⟩ := bi_eq h
    cases h
    obtain ⟨h3, _⟩ := asInt_run hr h1 h2
    exact .inr ⟨n.1, n.2, by simp [h3], rfl⟩

theorem astep_sound {o : Oper} {nx : Nat} (hnx : lk σ.mem nx = .fut) {av : AV} {ws : List (Nat × AB)} (h : astep tt σ.rd nx o.op = some (av, ws)) : OpOK P σ w g a o av ws := by
  have hm := hr.mem
  cases ho : o.op with
  | move x =>
    rw [ho] at h
    simp only [astep] at h
    obtain ⟨b, hx, h⟩ := bi_eq h
    cases h
    exact pureOp hm (by simp [execOp, ho]) (aeval_sound hr hx)
  | assign x =>
    rw [ho] at h
    simp only [astep] at h
    obtain ⟨b, hx, h⟩ := bi_eq h
    cases h
    exact pureOp hm (by simp [execOp, ho]) (aeval_sound hr hx)
  | pick c x y =>
    rw [ho] at h
    simp only [astep] at h
    obtain ⟨b, hc, h⟩ := bi_eq h
    obtain ⟨t, ht, h⟩ := bi_eq h
    obtain ⟨r, hx, h⟩ := bi_eq h
    cases h
    have hb := aeval_sound hr hc
    unfold abool at ht
    split at ht
    · cases ht
      have hb := RA_bool hb
      cases t
      · exact pureOp hm (by simp [execOp, ho, hb, asBool]) (aeval_sound hr hx)
      · exact pureOp hm (by simp [execOp, ho, hb, asBool]) (aeval_sound hr hx)
    · cases ht
  | alloc t =>
    rw [ho] at h
    simp only [astep] at h
    obtain ⟨i, ht, h⟩ := bi_eq h
    obtain ⟨z, hz, h⟩ := bi_eq h
    cases h
    exact op_alloc hT hr hnx ho ht hz
  | box t x =>
    rw [ho] at h
    simp only [astep] at h
    obtain ⟨b, hx, h⟩ := bi_eq h
    split at h
    · rename_i hc
      cases h
      exact op_box hT hr hnx ho hx hc
    · cases h
  | load t x =>
    rw [ho] at h
    simp only [astep] at h
    obtain ⟨i, ht, h⟩ := bi_eq h
    obtain ⟨sz, hsz, h⟩ := bi_eq h
    obtain ⟨b, hx, h⟩ := bi_eq h
    obtain ⟨r, hl, h⟩ := bi_eq h
    cases h
    obtain ⟨u, hu, hA⟩ := aload_run hT ht hsz hm (aeval_sound hr hx) hl
    exact pureOp hm (by simp [execOp, ho, hu]) hA
  | store t x y =>
    rw [ho] at h
    simp only [astep] at h
    obtain ⟨i, ht, h⟩ := bi_eq h
    obtain ⟨b, hx, h⟩ := bi_eq h
    obtain ⟨c, hy, h⟩ := bi_eq h
    obtain ⟨r, hs, h⟩ := bi_eq h
    cases h
    obtain ⟨w', g', hrun, S⟩ := astore_run hT ht hm (aeval_sound hr hx) (aeval_sound hr hy) hs
    exact ⟨.skip, undef, w', g', by simp [execOp, ho, hrun], .inr ⟨rfl, rfl⟩, S, .undef _⟩
  | nilCheck x =>
    rw [ho] at h
    simp only [astep] at h
    obtain ⟨b, hx, h⟩ := bi_eq h
    split at h
    · rename_i hal
      cases h
      obtain ⟨ad, hv, _, _⟩ := alive_run hm (aeval_sound hr hx) hal
      exact pureOp hm (v := a.eval x) (by simp [execOp, ho, hv]) (aeval_sound hr hx)
    · cases h
  | binOp op t x y yt =>
    rw [ho] at h
    simp only [astep] at h
    obtain ⟨b, hx, h⟩ := bi_eq h
    obtain ⟨c, hy, h⟩ := bi_eq h
    obtain ⟨p, hp, h⟩ := bi_eq h
    cases h
    obtain ⟨z, hz, hA⟩ := binOp_run (P := P) (x := x) (y := y) hT (aeval_sound hr hx) (aeval_sound hr hy) hp
    refine pureOp hm ?_ hA
    simp only [execOp, ho, Sem.run_bind] at hz ⊢
    rw [hz]; rfl
  | unOp op t x =>
    rw [ho] at h
    simp only [astep] at h
    obtain ⟨b, hx, h⟩ := bi_eq h
    obtain ⟨p, hp, h⟩ := bi_eq h
    cases h
    obtain ⟨z, hz, hA⟩ := op_unOp (P := P) hT hr (x := x) (aeval_sound hr hx) hp
    exact pureOp hm (by simp [execOp, ho, hz]) hA
  | convert s t x =>
    rw [ho] at h
    simp only [astep] at h
    obtain ⟨b, hx, h⟩ := bi_eq h
    obtain ⟨p, hp, h⟩ := bi_eq h
    cases h
    obtain ⟨z, hz, hA⟩ := convert_run hT hr (aeval_sound hr hx) hp
    exact pureOp hm (by simp [execOp, ho, hz]) hA
  | extract x i =>
    rw [ho] at h
    simp only [astep] at h
    obtain ⟨b, hx, h⟩ := bi_eq h
    split at h
    · obtain ⟨r, hi, h⟩ := bi_eq h
      cases h
      have hA := aeval_sound hr hx
      generalize hv : a.eval x = v at hA
      cases hA with
      | tup _ vs hl hAll =>
        have hlt : i < vs.size := by
          rw [← hl]
          refine Nat.lt_of_not_le fun h' => ?_
          rw [List.getElem?_eq_none h'] at hi; cases hi
        exact pureOp hm (v := vs[i]) (by simp [execOp, ho, hv, Instr.extract, hlt]) (hAll i _ _ hi (Array.getElem?_eq_getElem hlt))
    · cases h
  | field s x f =>
    rw [ho] at h
    simp only [astep] at h
    obtain ⟨i, hs, h⟩ := bi_eq h
    split at h
    · rename_i fs hu
      obtain ⟨p, hf, h⟩ := bi_eq h
      obtain ⟨j, hj, h⟩ := bi_eq h
      obtain ⟨b, hx, h⟩ := bi_eq h
      obtain ⟨r, hr', h⟩ := bi_eq h
      cases h
      obtain ⟨z, hz, hA⟩ := field_run hT hs hu hf hj (aeval_sound hr hx) hr'
      exact pureOp hm (by simp [execOp, ho, hz]) hA
    · cases h
  | fieldAddr s x f =>
    rw [ho] at h
    simp only [astep] at h
    obtain ⟨i, hs, h⟩ := bi_eq h
    split at h
    · rename_i fs hu
      obtain ⟨p, hf, h⟩ := bi_eq h
      obtain ⟨j, hj, h⟩ := bi_eq h
      split at h
      · cases h
      · rename_i hj0
        obtain ⟨b, hx, h⟩ := bi_eq h
        obtain ⟨r, hr', h⟩ := bi_eq h
        cases h
        obtain ⟨z, hz, hA⟩ := fieldAddr_run hT hm hs hu hf hj hj0 (aeval_sound hr hx) hr'
        exact pureOp hm (by simp [execOp, ho, hz]) hA
    · cases h
  | indexAddr t x ix =>
    rw [ho] at h
    simp only [astep] at h
    obtain ⟨i, ht, h⟩ := bi_eq h
    split at h
    · rename_i e hu
      obtain ⟨j, he, h⟩ := bi_eq h
      obtain ⟨b, hx, h⟩ := bi_eq h
      obtain ⟨c, hi, h⟩ := bi_eq h
      obtain ⟨n, hn, h⟩ := bi_eq h
      obtain ⟨r, hr', h⟩ := bi_eq h
      cases h
      obtain ⟨z, hz, hA⟩ := indexAddr_run (k := n.1) hT hm ht hu he (aeval_sound hr hx) hr'
      obtain ⟨h3, _⟩ := asInt_run hr hi hn
      exact pureOp hm (by simp [execOp, ho, h3, hz]) hA
    · cases h
  | index t x ix =>
    rw [ho] at h
    simp only [astep] at h
    obtain ⟨i, ht, h⟩ := bi_eq h
    split at h
    · rename_i hu
      obtain ⟨b, hx, h⟩ := bi_eq h
      obtain ⟨c, hi, h⟩ := bi_eq h
      obtain ⟨n, hn, h⟩ := bi_eq h
      split at h
      · rename_i s
        split at h
        · rename_i h0
          obtain ⟨u, hu', h⟩ := bi_eq h
          cases h
          have hun := und_string hT ht hu
          obtain ⟨h3, _⟩ := asInt_run hr hi hn
          have hv := RA_str (aeval_sound hr hx)
          refine pureOp hm (v := .int .u8 u.toNat) ?_ (.d _ _ (.int _ _))
          simp [execOp, ho, h3, hv, Instr.index, asIntOf, run_underlying hun, h0, hu']
        · cases h
      · cases h
    · cases h
  | slice t x lo hi mx =>
    rw [ho] at h
    cases mx with
    | some m => simp only [astep] at h; cases h
    | none =>
      simp only [astep] at h
      obtain ⟨i, ht, h⟩ := bi_eq h
      obtain ⟨b, hx, h⟩ := bi_eq h
      obtain ⟨l, hl, h⟩ := bi_eq h
      obtain ⟨hh, hhi, h⟩ := bi_eq h
      have e1 := lohi_run hT hr hl
      have e2 := lohi_run hT hr hhi
      have hA := aeval_sound hr hx
      split at h
      · have hu := ‹i.ud = UD.string›
        obtain ⟨r, hr', h⟩ := bi_eq h
        cases h
        obtain ⟨z, hz, hAz⟩ := slice_run hT hm ht (.inl ⟨hu, _, rfl⟩) hA e1 e2 hr'
        exact pureOp hm (by simp [execOp, ho, hz]) hAz
      · cases h
      · have hu := ‹i.ud = UD.slice _›
        have hns := ‹∀ (s : ByteArray), _ = AV.d (PV.str s) → False›
        obtain ⟨j, he, h⟩ := bi_eq h
        obtain ⟨r, hr', h⟩ := bi_eq h
        cases h
        obtain ⟨z, hz, hAz⟩ := slice_run hT hm ht (.inr ⟨_, j, hu, he, rfl, fun s hs => hns s hs⟩) hA e1 e2 hr'
        exact pureOp hm (by simp [execOp, ho, hz]) hAz
      · cases h
  | makeSlice t l c =>
    rw [ho] at h
    simp only [astep] at h
    obtain ⟨i, ht, h⟩ := bi_eq h
    split at h
    · rename_i e hu
      obtain ⟨j, he, h⟩ := bi_eq h
      obtain ⟨z, hz, h⟩ := bi_eq h
      obtain ⟨b, hl, h⟩ := bi_eq h
      obtain ⟨n, hn, h⟩ := bi_eq h
      obtain ⟨b', hc, h⟩ := bi_eq h
      obtain ⟨n', hn', h⟩ := bi_eq h
      split at h
      · rename_i hb
        cases h
        obtain ⟨_, rfl⟩ := asInt_run hr hl hn
        obtain ⟨_, rfl⟩ := asInt_run hr hc hn'
        exact op_makeSlice hT hr hnx ho ht hu he hz hl hc hb.1 hb.2.1 hb.2.2.1 hb.2.2.2.1 hb.2.2.2.2.1 hb.2.2.2.2.2
      · cases h
    · cases h
  | build t parts =>
    rw [ho] at h
    simp only [astep] at h
    obtain ⟨i, ht, h⟩ := bi_eq h
    split at h
    · rename_i fs hu
      obtain ⟨z, hz, h⟩ := bi_eq h
      obtain ⟨ps, hps, h⟩ := bi_eq h
      obtain ⟨cs, hcs, h⟩ := bi_eq h
      cases h
      obtain ⟨p1, p2⟩ := aparts_sound hr hps
      obtain ⟨v, hv, hA⟩ := build_run (P := P) (σ := σ) (w := w) (g := g) hT ht hu hz ps (parts.toList.map fun x => (x.1, a.eval x.2)) (by simp [p1]) (fun k x y hx hy => by
        rw [List.getElem?_map] at hy
        cases hk : parts.toList[k]? with
        | none => rw [hk] at hy; cases hy
        | some z =>
          rw [hk] at hy; cases hy
          obtain ⟨y', h1, h2, h3⟩ := p2 k z hk
          rw [h1] at hx; cases hx
          exact ⟨h2.symm, h3⟩) hcs
      refine pureOp hm (v := v) ?_ hA
      have hmap : (parts.map fun (i, x) => (i, a.eval x)) = (parts.toList.map fun x => (x.1, a.eval x.2)).toArray := by
        apply Array.ext'
        simp
      simp only [execOp, ho, hmap, Sem.run_bind, hv, Result.andThen_ok, Sem.run_pure]
    · cases h
  | buildSlice t len parts =>
    rw [ho] at h
    simp only [astep] at h
    obtain ⟨i, ht, h⟩ := bi_eq h
    split at h
    · rename_i e hu
      obtain ⟨j, he, h⟩ := bi_eq h
      split at h
      · rename_i hc
        simp only [Bool.and_eq_true, decide_eq_true_eq, beq_iff_eq] at hc
        obtain ⟨⟨⟨⟨c1, c2⟩, c3⟩, c4⟩, c5⟩ := hc
        obtain ⟨ps, hps, h⟩ := bi_eq h
        obtain ⟨fl, hfl, h⟩ := bi_eq h
        obtain ⟨r, hr', h⟩ := bi_eq h
        cases h
        obtain ⟨z, hz⟩ := Option.isSome_iff_exists.1 c5
        exact op_buildSlice hT hr hnx ho ht hu he hz c1 c2 c3 c4 hps hfl hr'
      · cases h
    · cases h
  | makeFunc fn first captured =>
    rw [ho] at h
    cases fn with
    | func f =>
      simp only [astep] at h
      split at h
      · rename_i hf
        obtain ⟨ps, hps, h⟩ := bi_eq h
        cases h
        obtain ⟨p1, p2⟩ := aparts_sound hr hps
        have hfe : first = #[] := by simpa using hf
        refine pureOp hm (v := .func (.func f) #[] (captured.map a.eval)) ?_ (.fn _ _ _ (by simp [p1]) (fun k c v hc hv => ?_))
        · have : (Instr.makeFunc (.func f) (first.map a.eval) (captured.map a.eval)).run P w = .ok (.func (.func f) #[] (captured.map a.eval)) w := by rw [hfe]; simp [Instr.makeFunc]
          simp [execOp, ho, this]
        · rw [List.getElem?_map] at hc
          cases hk : captured.toList[k]? with
          | none => rw [Array.getElem?_map] at hv; simp at hk; rw [Array.getElem?_eq_none hk] at hv; cases hv
          | some z =>
            obtain ⟨y', h1, h2, h3⟩ := p2 k (0, z) (by simp [hk])
            rw [h1] at hc; cases hc
            rw [Array.getElem?_map] at hv
            have : captured[k]? = some z := by simpa using hk
            rw [this] at hv; cases hv
            exact h3
      · cases h
    | _ => simp only [astep] at h; cases h
  | call c =>
    rw [ho] at h
    obtain ⟨callee, args, ts⟩ := c
    have two : ∀ {α : Type} {l : Array α} {x y : α}, l.toList = [x, y] → l = #[x, y] := fun h => by apply Array.ext'; simpa using h
    have one : ∀ {α : Type} {l : Array α} {x : α}, l.toList = [x] → l = #[x] := fun h => by apply Array.ext'; simpa using h
    cases callee with
    | builtin b =>
      cases b with
      | len =>
        have h' := h
        simp only [astep] at h'
        split at h'
        · rename_i x t e1 e2
          have := one e1; subst this
          have := one e2; subst this
          exact op_len hT hr ho h
        · cases h'
      | append =>
        have h' := h
        simp only [astep] at h'
        split at h'
        · rename_i s x t u e1 e2
          have := two e1; subst this
          have := two e2; subst this
          exact op_append hT hr hnx ho h
        · cases h'
      | min =>
        have h' := h
        simp only [astep] at h'
        split at h'
        · rename_i x y e1
          have := two e1; subst this
          exact op_minmax hT hr false ho h
        · cases h'
      | max =>
        have h' := h
        simp only [astep] at h'
        split at h'
        · rename_i x y e1
          have := two e1; subst this
          exact op_minmax hT hr true ho h
        · cases h'
      | _ => simp only [astep] at h; cases h
    | _ => simp only [astep] at h; cases h
  | _ => rw [ho] at h; simp only [astep] at h; cases h

end
end Go.Proofs.Ytfeiaibdnnhlaaa
