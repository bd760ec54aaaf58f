import Derived.Test.Ytfeiaibdnnhlaaan
/- The abstract interpreter, part 15: a call by its contract is sound. -/
set_option linter.unusedSectionVars false
set_option linter.unusedVariables false
set_option linter.unusedSimpArgs false
namespace Go.Proofs.Ytfeiaibdnnhlaaa

section
variable {σ : AS} {w : World} {g : Gh}

theorem L_known {L : List Nat} {memL : List AB} (hL : omap (outAB σ.rd L) L = some memL) {b : Nat} (hb : L.contains b = true) : lk σ.mem b ≠ .fut := by
  obtain ⟨l1, l2⟩ := outABs_get hL
  obtain ⟨x, _, h2⟩ := l2 _ b (idx_get hb)
  unfold outAB at h2
  split at h2
  · rename_i cells hc; rw [rd_m hc]; exact AB.noConfusion
  · rename_i e n xs hc; rw [rd_m hc]; exact AB.noConfusion
  · cases h2

theorem Mem.out (hm : Mem w g σ.mem) {L : List Nat} (hn : L.Nodup) {memL : List AB} (hL : omap (outAB σ.rd L) L = some memL) : Mem w (g.out false w L) memL := by
  obtain ⟨l1, l2⟩ := outABs_get hL
  have hlk : ∀ (k b : Nat), L[k]? = some b → ∃ x, lk memL k = x ∧ outAB σ.rd L b = some x ∧ x ≠ .fut := by
    intro k b hb
    obtain ⟨x, h1, h2⟩ := l2 k b hb
    refine ⟨x, by simp [lk, List.getD, h1], h2, ?_⟩
    unfold outAB at h2
    split at h2
    · obtain ⟨l, _, h2⟩ := bi_eq h2; cases h2; exact AB.noConfusion
    · cases h2; exact AB.noConfusion
    · cases h2
  refine ⟨⟨fun q hq => ?_, fun q hq => out_ro (hm.good.new q hq), fun q k m hq => ?_⟩, fun k => ?_⟩
  · simp only [Gh.out, Bool.false_eq_true, if_false] at hq
    refine ⟨?_, hq.1⟩
    rcases hq.2 with h | ⟨b, m, h1, h2⟩
    · exact out_ro h
    · exact out_not h1 h2
  · cases hst : g.st q with
    | ro => rw [out_ro hst] at hq; cases hq
    | own b m' =>
      cases hb : L.contains b with
      | false => rw [out_not hst hb] at hq; cases hq
      | true =>
        rw [out_own hst hb] at hq
        cases hq
        obtain ⟨x, h1, _, h3⟩ := hlk _ b (idx_get hb)
        rw [h1]; exact h3
  · cases hk : L[k]? with
    | none =>
      have : lk memL k = .fut := by
        simp only [lk, List.getD]
        rw [List.getElem?_eq_none]
        · rfl
        · rw [l1]; exact List.getElem?_eq_none_iff.1 hk
      rw [this]; trivial
    | some b =>
      obtain ⟨x, h1, h2, _⟩ := hlk k b hk
      obtain ⟨hi, hb⟩ := idx_of hn hk
      rw [h1]
      have hB := hm.rm b
      obtain ⟨e1, e2⟩ := out_loc (g := g) (pure := false) (w := w) hk
      unfold outAB at h2
      split at h2
      · rename_i cells hc
        obtain ⟨l, hl, h2⟩ := bi_eq h2
        cases h2
        rw [rd_m hc] at hB
        obtain ⟨q, cs, t, a1, a2, a3, a4, a5, a6⟩ := hB
        obtain ⟨g1, g2⟩ := outAVs_get hl
        refine ⟨q, cs, t, e1.trans a1, by rw [out_own a2 hb, hi], a3, by rw [g1]; exact a4, a5, fun j c v hj hv => ?_⟩
        have hjl : j < cells.length := by
          rw [← g1]
          refine Nat.lt_of_not_le fun h' => ?_
          rw [List.getElem?_eq_none h'] at hj; cases hj
        obtain ⟨c', b1, b2⟩ := g2 j _ (List.getElem?_eq_getElem hjl)
        rw [hj] at b1; cases b1
        exact RA.out hm hn hL (a6 j _ v (List.getElem?_eq_getElem hjl) hv) b2
      · rename_i e n xs hc
        cases h2
        rw [rd_m hc] at hB
        rcases hB with ⟨a1, a2⟩ | ⟨q, cs, t, a1, a2, a3, a4, a5, a6, a7, a8, a9⟩
        · exact .inl ⟨e1.trans a1, a2⟩
        · refine .inr ⟨q, cs, t, e1.trans a1, by rw [out_own a2 hb, hi], a3, by rw [e2]; exact a4, by rw [e2]; exact a5, by rw [e2]; exact a6, a7, a8, fun i x j p hx hp => ?_⟩
          obtain ⟨v, hv, ho⟩ := a9 i x j p hx hp
          exact ⟨v, hv, ho.keep fun q l hq => ⟨by rw [out_own hq hb, hi], rfl⟩⟩
      · cases h2

theorem Mem.outPure (hm : Mem w g σ.mem) : Mem w (g.out true w []) [] := by
  refine ⟨⟨fun q hq => ?_, fun q hq => out_ro (hm.good.new q hq), fun q k m hq => ?_⟩, fun k => ?_⟩
  · simp only [Gh.out, if_true] at hq
    exact ⟨out_ro (hm.good.ok q hq).1, (hm.good.ok q hq).2⟩
  · cases hst : g.st q with
    | ro => rw [out_ro hst] at hq; cases hq
    | own b m' => rw [out_not hst rfl] at hq; cases hq
  · have : lk ([] : List AB) k = .fut := rfl
    rw [this]; trivial

theorem inABs_ids {ρ : Rd} {pure : Bool} {L : List Nat} {nx : Nat} : ∀ {l : List AB} {k : Nat} {ws : List (Nat × AB)}, inABs ρ pure L nx k l = some ws → ∀ j, j < l.length → ∃ x ∈ ws, x.1 = imp L nx (k + j)
  | [], k, ws, h, j, hj => by simp at hj
  | x :: l, k, ws, h, j, hj => by
    simp only [inABs] at h
    obtain ⟨y, hy, h⟩ := bi_eq h
    obtain ⟨r, hr, h⟩ := bi_eq h
    cases h
    cases j with
    | zero => exact ⟨_, List.mem_cons_self, rfl⟩
    | succ j =>
      obtain ⟨z, h1, h2⟩ := inABs_ids hr j (by simpa using hj)
      exact ⟨z, List.mem_cons_of_mem _ h1, by rw [h2]; congr 1; omega⟩

theorem imp_inj {L : List Nat} {nx c : Nat} (hn : L.Nodup) (hk : ∀ b, L.contains b = true → lk σ.mem b ≠ .fut) (hnx : ∀ j, j < c → lk σ.mem (nx + j) = .fut) : ∀ i j, i < L.length + c → j < L.length + c → imp L nx i = imp L nx j → i = j := by
  intro i j hi0 hj0 h
  unfold imp at h
  cases hi : L[i]? with
  | none =>
    have hi' := List.getElem?_eq_none_iff.1 hi
    cases hj : L[j]? with
    | none =>
      have hj' := List.getElem?_eq_none_iff.1 hj
      rw [hi, hj] at h
      simp only at h
      omega
    | some b =>
      rw [hi, hj] at h
      simp only at h
      have := hk b (List.contains_iff_mem.2 (List.mem_of_getElem? hj))
      rw [← h, hnx _ (by omega)] at this
      exact absurd rfl this
  | some b =>
    cases hj : L[j]? with
    | none =>
      rw [hi, hj] at h
      simp only at h
      have := hk b (List.contains_iff_mem.2 (List.mem_of_getElem? hi))
      rw [h, hnx _ (by have := List.getElem?_eq_none_iff.1 hj; omega)] at this
      exact absurd rfl this
    | some c =>
      rw [hi, hj] at h
      simp only at h
      subst h
      have hlt : i < L.length := by
        refine Nat.lt_of_not_le fun h' => ?_
        rw [List.getElem?_eq_none h'] at hi; cases hi
      exact (List.getElem?_inj hlt hn).1 (hi.trans hj.symm)

theorem call_back (hm : Mem w g σ.mem) {pure : Bool} {L : List Nat} {memL memR : List AB} {nx : Nat} {ws : List (Nat × AB)} (hn : L.Nodup) (hpL : pure = true → L = [])
    (hk : ∀ b, L.contains b = true → lk σ.mem b ≠ .fut) (hkL : ∀ k b, L[k]? = some b → lk memL k ≠ .fut) (hws : inABs σ.rd pure L nx 0 memR = some ws) (hlen : L.length ≤ memR.length) {c : Nat} (hcnt : memR.length ≤ L.length + c) (hnx : ∀ j, j < c → lk σ.mem (nx + j) = .fut)
    {w' : World} {g1 : Gh} (hm1 : Mem w' g1 memR) (hf : Fr w (g.out pure w L) memL w' g1) {res av : AV} {v : Value} (hv : RA w' g1 memR res v) (hin : inAV pure L nx res = some av) :
    Step w g σ.mem w' (g.inn g1 pure w L nx c) (appW ws σ.mem) ∧ RA w' (g.inn g1 pure w L nx c) (appW ws σ.mem) av v := by
  have inj := imp_inj hn hk hnx
  obtain ⟨k1, k2⟩ := inABs_get inj (by omega) hws σ.mem
  have hlk : ∀ (k : Nat) (x : AB), lk memR k = x → x ≠ .fut → ∃ y, inAB σ.rd pure L nx k x = some y ∧ lk (appW ws σ.mem) (imp L nx k) = y := by
    intro k x hx hnf
    have hkx : memR[k]? = some x := by
      simp only [lk, List.getD] at hx
      cases h : memR[k]? with
      | none => rw [h] at hx; exact absurd hx.symm hnf
      | some y => rw [h] at hx; simpa using hx
    simpa using k1 k x hkx
  have himpL : ∀ k b, L[k]? = some b → imp L nx k = b := fun k b h => by simp only [imp, h]
  have himpN : ∀ k, L.length ≤ k → imp L nx k = nx + (k - L.length) := fun k h => by simp only [imp, List.getElem?_eq_none h]
  have hloc : ∀ k, lk memR k ≠ .fut → (g.inn g1 pure w L nx c).loc (imp L nx k) = g1.loc k ∧ (g.inn g1 pure w L nx c).cap (imp L nx k) = g1.cap k := by
    intro k hkf
    have hkR : k < memR.length := by
      refine Nat.lt_of_not_le fun h' => hkf ?_
      simp [lk, List.getD, List.getElem?_eq_none h']
    rcases Nat.lt_or_ge k L.length with h | h
    · have hb := List.getElem?_eq_getElem h
      obtain ⟨hi, hc⟩ := idx_of hn hb
      rw [himpL k _ hb]
      simp only [Gh.inn, hc, if_true]
      obtain ⟨e1, e2⟩ := out_loc (g := g) (pure := pure) (w := w) hb
      obtain ⟨f1, f2⟩ := hf.loc k (hkL k _ hb)
      exact ⟨by rw [f1, e1], by rw [f2, e2]⟩
    · rw [himpN k h]
      have hnc : L.contains (nx + (k - L.length)) = false := by
        cases hc : L.contains (nx + (k - L.length)) with
        | false => rfl
        | true => exact absurd (hnx _ (by omega)) (hk _ hc)
      have hin : nx ≤ nx + (k - L.length) ∧ nx + (k - L.length) < nx + c := by omega
      simp only [Gh.inn, hnc, Bool.false_eq_true, if_false, hin, and_self, if_true]
      rw [show L.length + (nx + (k - L.length) - nx) = k by omega]
      exact ⟨rfl, rfl⟩
  have hoknew : pure = true → ∀ q, g1.ok q → (g.inn g1 pure w L nx c).ok q := fun hp q hq => by simp only [Gh.inn, hp, if_true]; exact .inr hq
  have hRA : ∀ {a a' : AV} {u : Value}, RA w' g1 memR a u → inAV pure L nx a = some a' → RA w' (g.inn g1 pure w L nx c) (appW ws σ.mem) a' u :=
    fun h h' => RA.inn (σ := σ) hlk hloc hoknew h h'
  have stNew : ∀ q k m, g1.st q = .own k m → (g.inn g1 pure w L nx c).st q = .own (imp L nx k) m := fun q k m h => by simp only [Gh.inn, h]
  have stOld : ∀ r d l, g.st r = .own d l → L.contains d = false → (g.inn g1 pure w L nx c).st r = .own d l ∧ w'.heap[r]? = w.heap[r]? := by
    intro r d l hr hd
    have hlt := own_lt hm.good hr
    obtain ⟨a1, a2, _⟩ := hf.ro r hlt (out_not hr hd)
    exact ⟨by simp only [Gh.inn, a2, hlt, if_true, hr, hd, Bool.false_eq_true, if_false], a1⟩
  have stRo : ∀ r, r < w.heap.size → g.st r = .ro → (g.inn g1 pure w L nx c).st r = .ro := by
    intro r hlt hr
    obtain ⟨_, a2, _⟩ := hf.ro r hlt (out_ro hr)
    simp only [Gh.inn, a2, hlt, if_true, hr]
  have hpure : ∀ r, pure = true → r < w.heap.size → g1.ok r → g.ok r := by
    intro r hp hlt h1
    have hL := hpL hp
    subst hL
    have hst : (g.out pure w []).st r = .ro := by
      cases h : g.st r with
      | ro => exact out_ro h
      | own b m => exact out_not h rfl
    have := (hf.ro r hlt hst).2.2 h1
    simpa only [Gh.out, hp, if_true] using this
  have T : ∀ d, (L.contains d = true ∨ ∃ k, L.length ≤ k ∧ k < memR.length ∧ d = imp L nx k) ↔ ∃ k, k < memR.length ∧ d = imp L nx k := by
    intro d
    constructor
    · rintro (h | ⟨k, h1, h2, h3⟩)
      · have hg := idx_get h
        have hlt : L.idxOf d < L.length := List.idxOf_lt_length_of_mem (List.contains_iff_mem.1 h)
        exact ⟨L.idxOf d, by omega, (himpL _ _ hg).symm⟩
      · exact ⟨k, h2, h3⟩
    · rintro ⟨k, h1, h2⟩
      rcases Nat.lt_or_ge k L.length with h | h
      · have hb := List.getElem?_eq_getElem h
        rw [himpL k _ hb] at h2
        exact .inl (by rw [h2]; exact (idx_of hn hb).2)
      · exact .inr ⟨k, h, h1, h2⟩
  have notin : ∀ d, ¬ (L.contains d = true ∨ ∃ k, L.length ≤ k ∧ k < memR.length ∧ d = imp L nx k) → lk (appW ws σ.mem) d = lk σ.mem d := by
    intro d hd
    rw [T] at hd
    exact k2 d fun j hj e => hd ⟨j, hj, by simpa using e.symm⟩
  refine ⟨Step.gen hm (fun d => L.contains d = true ∨ ∃ k, L.length ≤ k ∧ k < memR.length ∧ d = imp L nx k) hf.size hf.os hf.out (fun r hlt hr => ?_) (fun r hr => ?_) (fun d hd => ?_) (fun d hd => ?_) (fun K d hd => ?_) ⟨fun r hr => ?_, fun r hr => ?_, fun r d l hr => ?_⟩, hRA hv hin⟩
  · obtain ⟨a1, _, _⟩ := hf.ro r hlt (out_ro hr)
    refine ⟨a1, stRo r hlt hr, fun h => ?_⟩
    cases hp : pure with
    | false => simpa only [Gh.inn, hp, Bool.false_eq_true, if_false] using h
    | true =>
      simp only [Gh.inn, hp, if_true] at h
      rcases h with h | h
      · exact h
      · exact hpure r hp hlt h
  · cases hp : pure with
    | false => simp only [Gh.inn, Bool.false_eq_true, if_false]; exact hr
    | true => simp only [Gh.inn, if_true]; exact .inl hr
  · refine ⟨notin d hd, fun hnf => ?_⟩
    simp only [not_or] at hd
    have hdc : L.contains d = false := by simpa using hd.1
    have hdn : ¬ (nx ≤ d ∧ d < nx + c) := fun h => hnf (by rw [show d = nx + (d - nx) by omega]; exact hnx _ (by omega))
    exact ⟨by simp only [Gh.inn, hdc, Bool.false_eq_true, if_false, hdn], by simp only [Gh.inn, hdc, Bool.false_eq_true, if_false, hdn], fun r l hr => stOld r d l hr hdc⟩
  · obtain ⟨k, hk1, hk2⟩ := (T d).1 hd
    subst hk2
    obtain ⟨x, hx⟩ : ∃ x, memR[k]? = some x := ⟨_, List.getElem?_eq_getElem hk1⟩
    obtain ⟨y, hy, hly⟩ := k1 k x hx
    simp only [Nat.zero_add] at hy hly
    rw [hly]
    have hynf : y ≠ .fut := by
      cases x with
      | fut => simp only [inAB] at hy; cases hy; exact AB.noConfusion
      | gone => simp only [inAB] at hy; cases hy; exact AB.noConfusion
      | sv cells =>
        simp only [inAB] at hy
        obtain ⟨cs, _, hy⟩ := bi_eq hy
        split at hy
        · cases hy; exact AB.noConfusion
        · split at hy
          · cases hy; exact AB.noConfusion
          · cases hy
      | ar e n xs =>
        simp only [inAB] at hy
        split at hy
        · cases hy; exact AB.noConfusion
        · split at hy
          · split at hy
            · cases hy; exact AB.noConfusion
            · cases hy
          · cases hy
    refine ⟨hynf, fun hnf => ?_⟩
    rcases Nat.lt_or_ge k L.length with h | h
    · have hb := List.getElem?_eq_getElem h
      obtain ⟨_, hc⟩ := idx_of hn hb
      have hbe := himpL k _ hb
      rw [hbe] at hnf ⊢
      refine ⟨⟨by simp only [Gh.inn, hc, if_true], by simp only [Gh.inn, hc, if_true]⟩, fun cells hc' => ?_, fun e n xs hc' => ?_⟩
      · subst hc'
        cases x with
        | sv cells =>
          simp only [inAB] at hy
          obtain ⟨cs, _, hy⟩ := bi_eq hy
          rw [hb] at hy
          simp only at hy
          split at hy
          · rename_i c0 h0; exact ⟨c0, rd_m h0⟩
          · cases hy
        | ar e n xs =>
          simp only [inAB] at hy
          rw [hb] at hy
          simp only at hy
          split at hy
          · split at hy <;> cases hy
          · cases hy
        | fut => simp only [inAB] at hy; cases hy
        | gone => simp only [inAB] at hy; cases hy
      · subst hc'
        cases x with
        | sv cells =>
          simp only [inAB] at hy
          obtain ⟨cs, _, hy⟩ := bi_eq hy
          rw [hb] at hy
          simp only at hy
          split at hy <;> cases hy
        | ar e' n' xs' =>
          simp only [inAB] at hy
          rw [hb] at hy
          simp only at hy
          split at hy
          · rename_i e0 n0 xs0 h0
            split at hy
            · rename_i hh
              cases hy
              exact ⟨n0, xs0, by rw [hh.1]; exact rd_m h0, hh.2, by omega⟩
            · cases hy
          · cases hy
        | fut => simp only [inAB] at hy; cases hy
        | gone => simp only [inAB] at hy; cases hy
    · rw [himpN k h, hnx _ (by omega)] at hnf
      exact absurd rfl hnf
  · obtain ⟨k, hk1, hk2⟩ := (T d).1 hd
    subst hk2
    obtain ⟨x, hx⟩ : ∃ x, memR[k]? = some x := ⟨_, List.getElem?_eq_getElem hk1⟩
    obtain ⟨y, hy, hly⟩ := k1 k x hx
    simp only [Nat.zero_add] at hy hly
    rw [hly]
    have hlx : lk memR k = x := by simp [lk, List.getD, hx]
    have hB := hm1.rm k
    rw [hlx] at hB
    cases x with
    | fut => simp only [inAB] at hy; cases hy; trivial
    | gone => simp only [inAB] at hy; cases hy; trivial
    | sv cells =>
      obtain ⟨e1, e2⟩ := hloc k (by rw [hlx]; exact AB.noConfusion)
      obtain ⟨q, cs, t, a1, a2, a3, a4, a5, a6⟩ := hB
      simp only [inAB] at hy
      obtain ⟨cs', hcs', hy⟩ := bi_eq hy
      obtain ⟨i1, i2⟩ := inAVs_get hcs'
      have fin : BR w' (g.inn g1 pure w L nx c) (appW ws σ.mem) (imp L nx k) (.sv cs') := by
        refine ⟨q, cs, t, e1.trans a1, stNew q k none a2, a3, by rw [i1]; exact a4, a5, fun j c u hj hu => ?_⟩
        have hjl : j < cells.length := by
          rw [← i1]
          refine Nat.lt_of_not_le fun h' => ?_
          rw [List.getElem?_eq_none h'] at hj; cases hj
        obtain ⟨c', b1, b2⟩ := i2 j _ (List.getElem?_eq_getElem hjl)
        rw [hj] at b1; cases b1
        exact hRA (a6 j _ u (List.getElem?_eq_getElem hjl) hu) b2
      split at hy
      · cases hy; exact fin
      · split at hy
        · cases hy; exact fin
        · cases hy
    | ar e n xs =>
      obtain ⟨e1, e2⟩ := hloc k (by rw [hlx]; exact AB.noConfusion)
      have fin : ∀ m, BR w' (g.inn g1 pure w L nx c) (appW ws σ.mem) (imp L nx k) (.ar e m xs) := by
        intro m
        rcases hB with ⟨a1, a2⟩ | ⟨q, cs, t, a1, a2, a3, a4, a5, a6, a7, a8, a9⟩
        · exact .inl ⟨e1.trans a1, a2⟩
        · refine .inr ⟨q, cs, t, e1.trans a1, stNew q k none a2, a3, by rw [e2]; exact a4, by rw [e2]; exact a5, by rw [e2]; exact a6, a7, a8, fun i x j p hx hp => ?_⟩
          obtain ⟨u, hu, ho⟩ := a9 i x j p hx hp
          exact ⟨u, hu, ho.keep fun q l hq => ⟨stNew q k _ hq, rfl⟩⟩
      simp only [inAB] at hy
      split at hy
      · cases hy; exact fin n
      · split at hy
        · split at hy
          · cases hy; exact fin _
          · cases hy
        · cases hy
  · cases hp : pure with
    | false =>
      simp only [Gh.inn, hp, Bool.false_eq_true, if_false] at hr
      obtain ⟨a1, a2⟩ := hm.good.ok r hr
      have := stRo r a2 a1
      rw [hp] at this
      exact ⟨this, Nat.lt_of_lt_of_le a2 hf.size⟩
    | true =>
      simp only [Gh.inn, hp, if_true] at hr
      rcases hr with hr | hr
      · obtain ⟨a1, a2⟩ := hm.good.ok r hr
        have := stRo r a2 a1
        rw [hp] at this
        exact ⟨this, Nat.lt_of_lt_of_le a2 hf.size⟩
      · obtain ⟨a1, a2⟩ := hm1.good.ok r hr
        refine ⟨?_, a2⟩
        by_cases hlt : r < w.heap.size
        · have hgr := hpure r hp hlt hr
          have := stRo r hlt (hm.good.ok r hgr).1
          rw [hp] at this
          exact this
        · simp only [Gh.inn, a1, hlt, if_false]
  · have h1 := hm1.good.new r hr
    have h2 : ¬ r < w.heap.size := by have := hf.size; omega
    simp only [Gh.inn, h1, h2, if_false]
  · cases h1 : g1.st r with
    | own k m =>
      rw [stNew r k m h1] at hr
      have hnf := hm1.good.nf r k m h1
      cases hr
      obtain ⟨y, hy, hly⟩ := hlk k _ rfl hnf
      rw [hly]
      generalize lk memR k = x at hy
      cases x with
      | fut => simp only [inAB] at hy; cases hy; exact AB.noConfusion
      | gone => simp only [inAB] at hy; cases hy; exact AB.noConfusion
      | sv cells =>
        simp only [inAB] at hy
        obtain ⟨cs, _, hy⟩ := bi_eq hy
        split at hy
        · cases hy; exact AB.noConfusion
        · split at hy
          · cases hy; exact AB.noConfusion
          · cases hy
      | ar e n xs =>
        simp only [inAB] at hy
        split at hy
        · cases hy; exact AB.noConfusion
        · split at hy
          · split at hy
            · cases hy; exact AB.noConfusion
            · cases hy
          · cases hy
    | ro =>
      simp only [Gh.inn, h1] at hr
      split at hr
      · split at hr
        · rename_i d' m' hst
          split at hr
          · cases hr
          · rename_i hc
            cases hr
            have hnf := hm.good.nf r d l hst
            rw [notin]
            · exact hnf
            · rintro (h | ⟨k, h3, h4, h5⟩)
              · exact hc h
              · rw [h5, himpN k h3, hnx _ (by omega)] at hnf; exact hnf rfl
        · cases hr
      · cases hr

/-- A call as the interpreter makes it. -/
def CallR (P : Program) (f : FuncId) (ρ : Rd) (nx : Nat) (as : List AV) (av : AV) (ws : List (Nat × AB)) : Prop :=
  ∃ (pure : Bool) (L : List Nat) (as' : List AV) (memL : List AB) (res : AV) (memR : List AB),
    ((pure = true ∧ L = [] ∧ plainAs as = true ∧ as' = as ∧ memL = []) ∨ (pure = false ∧ nodupL L = true ∧ outAVs ρ L as = some as' ∧ omap (outAB ρ L) L = some memL)) ∧
    Spec P f as' memL res memR ∧ L.length ≤ memR.length ∧ inAV pure L nx res = some av ∧ inABs ρ pure L nx 0 memR = some ws

theorem call_sound {P : Program} {f : FuncId} (hm : Mem w g σ.mem) {as : List AV} {vs : List Value} (hA : AllRA w g σ.mem as vs) {nx c : Nat} (hnx : ∀ j, j < c → lk σ.mem (nx + j) = .fut) {av : AV} {ws : List (Nat × AB)} (hw : ∀ x ∈ ws, x.1 < nx + c)
    (h : CallR P f σ.rd nx as av ws) :
    Calls P f vs.toArray w fun e w' => ∃ v g', e = .returned v ∧ Step w g σ.mem w' g' (appW ws σ.mem) ∧ RA w' g' (appW ws σ.mem) av v := by
  obtain ⟨pure, L, as', memL, res, memR, hc, ⟨_, hspec⟩, hlen, hin, hws⟩ := h
  have hcnt : memR.length ≤ L.length + c := by
    refine Nat.le_of_not_lt fun h' => ?_
    have h2 := inABs_ids hws (memR.length - 1) (by omega)
    obtain ⟨x, hx, hx'⟩ := h2
    have := hw x hx
    rw [hx', Nat.zero_add] at this
    simp only [imp, List.getElem?_eq_none (show L.length ≤ memR.length - 1 by omega)] at this
    omega
  rcases hc with ⟨rfl, rfl, hp, rfl, rfl⟩ | ⟨rfl, hn, ho, hL⟩
  · refine (hspec w (g.out true w []) vs hm.outPure (plainAs_RA hm hA hp)).mono ?_
    rintro e w' ⟨v, g1, he, hm1, hv, hf⟩
    obtain ⟨S, R⟩ := call_back hm List.nodup_nil (fun _ => rfl) (fun b hb => by simp at hb) (fun k b hb => by simp at hb) hws hlen hcnt hnx hm1 hf hv hin
    exact ⟨v, _, he, S, R⟩
  · have hn := nodupL_iff hn
    obtain ⟨g1, g2⟩ := outAVs_get ho
    have hA' : AllRA w (g.out false w L) memL as' vs := by
      refine ⟨by rw [g1]; exact hA.1, fun i c u hc hu => ?_⟩
      have hi : i < as.length := by
        rw [← g1]
        refine Nat.lt_of_not_le fun h' => ?_
        rw [List.getElem?_eq_none h'] at hc; cases hc
      obtain ⟨c', a1, a2⟩ := g2 i _ (List.getElem?_eq_getElem hi)
      rw [hc] at a1; cases a1
      exact RA.out hm hn hL (hA.2 i _ u (List.getElem?_eq_getElem hi) hu) a2
    refine (hspec w (g.out false w L) vs (hm.out hn hL) hA').mono ?_
    rintro e w' ⟨v, g1', he, hm1, hv, hf⟩
    obtain ⟨S, R⟩ := call_back hm hn (fun h => by cases h) (fun b hb => L_known hL hb) (fun k b hb => by
      obtain ⟨l1, l2⟩ := outABs_get hL
      obtain ⟨x, h1, h2⟩ := l2 k b hb
      have : lk memL k = x := by simp [lk, List.getD, h1]
      rw [this]
      unfold outAB at h2
      split at h2
      · obtain ⟨l, _, h2⟩ := bi_eq h2; cases h2; exact AB.noConfusion
      · cases h2; exact AB.noConfusion
      · cases h2) hws hlen hcnt hnx hm1 hf hv hin
    exact ⟨v, _, he, S, R⟩

end
end Go.Proofs.Ytfeiaibdnnhlaaa
