import Derived.Test.Ytfeiaibdnnhlaaai
/- The abstract interpreter, part 10: variables, literals, made slices. -/
set_option linter.unusedSectionVars false
set_option linter.unusedVariables false
set_option linter.unusedSimpArgs false
namespace Go.Proofs.Ytfeiaibdnnhlaaa

theorem OW.of_block {w w' : World} {g : Gh} {mem : List AB} {c b e n : Nat} {l : Nat × Nat} {xs : List (List PV)} {st' : Nat → St} (hB : BR w g mem c (.ar e n xs))
    (h1 : ∀ q, g.st q = .own c none → st' q = .own b (some l)) (h2 : ∀ q m, g.st q = .own c (some m) → st' q = .own b (some m)) (h3 : ∀ q m, g.st q = .own c m → w'.heap[q]? = w.heap[q]?) :
    OW w' st' b l (.ls xs) (hdr g c xs.length) := by
  rcases hB with ⟨a1, a2⟩ | ⟨q, cs, t, a1, a2, a3, a4, a5, a6, a7, a8, a9⟩
  · rw [a2]; simp only [hdr, a1]; exact .nil _ _ _
  · simp only [hdr, a1]
    have h10 : ∀ (i : Nat) (x : List PV) (j : Nat) (p : PV), xs[i]? = some x → x[j]? = some p → cs[i * e + j]? = some (cs.getD (i * e + j) undef) := fun i x j p hi hj => by
      obtain ⟨v, hv, _⟩ := a9 i x j p hi hj
      simp [Array.getD_eq_getD_getElem?, hv]
    refine .ls l e xs q (g.cap c) cs t (fun i j => cs.getD (i * e + j) undef) (h1 q a2) ((h3 q _ a2).trans a3) a4 a5 a6 a7 a8 h10 (fun i x j p hi hj => ?_)
    obtain ⟨v, hv, ho⟩ := a9 i x j p hi hj
    have : cs.getD (i * e + j) undef = v := by simp [Array.getD_eq_getD_getElem?, hv]
    rw [this]
    exact ho.keep fun q m hq => ⟨h2 q m hq, h3 q _ hq⟩

theorem toPVs_spec {ρ : Rd} : ∀ {as : List AV} {used : List Nat} {ps : List PV} {u : List Nat}, toPVs ρ used as = some (ps, u) → ps.length = as.length ∧ ∃ csl : List (Option Nat), csl.length = as.length ∧
    (∀ (k : Nat) (a : AV), as[k]? = some a → ∃ p c, ps[k]? = some p ∧ csl[k]? = some c ∧ toPV ρ a = some (p, c)) ∧
    (∀ (k k' d : Nat), csl[k]? = some (some d) → csl[k']? = some (some d) → k = k') ∧ (∀ (k d : Nat), csl[k]? = some (some d) → d ∉ used) ∧
    (∀ d, d ∈ u ↔ d ∈ used ∨ ∃ k : Nat, csl[k]? = some (some d))
  | [], used, ps, u, h => by
    simp only [toPVs] at h
    cases h
    exact ⟨rfl, [], rfl, fun k a h => by simp at h, fun k k' d h => by simp at h, fun k d h => by simp at h, fun d => by simp⟩
  | a :: as, used, ps, u, h => by
    simp only [toPVs] at h
    split at h
    · cases h
    · rename_i p c hp
      split at h
      · cases h
      · rename_i hn
        split at h
        · cases h
        · rename_i ps' u' hr
          cases h
          obtain ⟨h1, csl, h2, h3, h4, h5, h6⟩ := toPVs_spec hr
          refine ⟨by simp [h1], c :: csl, by simp [h2], fun k x hx => ?_, fun k k' d hk hk' => ?_, fun k d hk => ?_, fun d => ?_⟩
          · cases k with
            | zero => simp at hx; subst hx; exact ⟨p, c, rfl, rfl, hp⟩
            | succ k => simp at hx; simpa using h3 k x hx
          · cases k with
            | zero =>
              cases k' with
              | zero => rfl
              | succ k' =>
                simp at hk hk'
                have := h5 k' d hk'
                exact absurd (by simp [hk]) this
            | succ k =>
              cases k' with
              | zero =>
                simp at hk hk'
                have := h5 k d hk
                exact absurd (by simp [hk']) this
              | succ k' => simp at hk hk'; rw [h4 k k' d hk hk']
          · cases k with
            | zero =>
              simp at hk
              subst hk
              simpa using hn
            | succ k =>
              simp at hk
              have := h5 k d hk
              simp at this
              exact this.2
          · rw [h6]
            simp only [List.mem_append, Option.mem_toList]
            constructor
            · rintro ((h | h) | ⟨k, h⟩)
              · exact .inr ⟨0, by simp [h]⟩
              · exact .inl h
              · exact .inr ⟨k + 1, by simpa using h⟩
            · rintro (h | ⟨k, h⟩)
              · exact .inl (.inr h)
              · cases k with
                | zero => simp at h; exact .inl (.inl h)
                | succ k => simp at h; exact .inr ⟨k, h⟩

theorem chunk_get {α : Type} : ∀ (n size : Nat) (l : List α) (i : Nat) (x : List α), (chunk n size l)[i]? = some x → i < n ∧ x = (l.drop (i * size)).take size
  | 0, _, _, i, x, h => by simp [chunk] at h
  | n + 1, size, l, i, x, h => by
    cases i with
    | zero => simp [chunk] at h; exact ⟨by omega, by simp [h]⟩
    | succ i =>
      simp only [chunk, List.getElem?_cons_succ] at h
      obtain ⟨h1, h2⟩ := chunk_get n size (l.drop size) i x h
      exact ⟨by omega, by rw [h2, List.drop_drop]; congr 2; rw [Nat.add_mul]; omega⟩

theorem chunk_length {α : Type} : ∀ (n size : Nat) (l : List α), (chunk n size l).length = n
  | 0, _, _ => rfl
  | n + 1, size, l => by simp [chunk, chunk_length n]

/-- A new block out of cells some of which are given with their blocks. -/
theorem Step.lit {σ : AS} {w : World} {g : Gh} (hm : Mem w g σ.mem) {nx size n : Nat} (hnx : lk σ.mem nx = .fut) (h0 : 0 < size) {fl : List AV} {ps : List PV} {u : List Nat} (hp : toPVs σ.rd [] fl = some (ps, u))
    {cs : Array Value} {t : TypeId} (hR : AllRA w g σ.mem fl cs.toList) (h1 : ∀ v ∈ cs.toList, v.oneCell' = true) (hl : fl.length = n * size) (hn : n ≤ maxLen) {mem' : List AB}
    (hmem : ∀ d, lk mem' d = if d = nx then .ar size 0 (chunk n size ps) else if d ∈ u then .gone else lk σ.mem d) :
    ∃ g', Step w g σ.mem (w.alloc (.cells cs t)) g' mem' ∧ RA (w.alloc (.cells cs t)) g' mem' (.sl nx) (.slice (some ⟨w.heap.size, 0, none⟩) n n) := by
  obtain ⟨p1, csl, p2, p3, p4, p5, p6⟩ := toPVs_spec hp
  have hu : ∀ d, d ∈ u → ∃ (k e m : Nat) (xs : List (List PV)), csl[k]? = some (some d) ∧ lk σ.mem d = .ar e m xs ∧ d ≠ nx := by
    intro d hd
    rcases (p6 d).1 hd with h | ⟨k, hk⟩
    · simp at h
    · have hkl : k < fl.length := by
        rw [← p2]
        rcases Nat.lt_or_ge k csl.length with h | h
        · exact h
        · rw [List.getElem?_eq_none h] at hk; cases hk
      obtain ⟨p, c, _, hc, htp⟩ := p3 k _ (List.getElem?_eq_getElem hkl)
      rw [hk] at hc; cases hc
      unfold toPV at htp
      split at htp
      · split at htp <;> cases htp
      · cases htp
      · cases htp
      · split at htp
        · rename_i e m xs hb
          cases htp
          have hb := rd_m hb
          exact ⟨k, e, m, xs, hk, hb, fun e' => by rw [e', hnx] at hb; cases hb⟩
        · cases htp
      · cases htp
  let g' : Gh :=
  { st := fun r => if r = w.heap.size then .own nx none else match g.st r with
      | .ro => .ro
      | .own d m => if d ∈ u then .own nx (some (m.getD (w.heap.size, csl.idxOf (some d)))) else .own d m
    loc := fun x => if x = nx then some w.heap.size else g.loc x
    cap := fun x => if x = nx then n else g.cap x
    ok := g.ok }
  have keepst : ∀ r d l, g.st r = .own d l → d ∉ u → g'.st r = .own d l := by
    intro r d l hr hd
    have := own_lt hm.good hr
    simp only [g']
    rw [if_neg (by omega), hr]
    simp [hd]
  have S : Step w g σ.mem (w.alloc (.cells cs t)) g' mem' := by
    refine Step.gen hm (fun d => d = nx ∨ d ∈ u) (by simp) rfl rfl (fun r hr hs => ?_) (fun r hr => hr) (fun d hd => ?_) (fun d hd => ?_) (fun K d hd => ?_) ⟨fun r hr => ?_, fun r hr => ?_, fun r d l hr => ?_⟩
    · exact ⟨heap_alloc_lt hr, by simp only [g']; rw [if_neg (by omega), hs], id⟩
    · simp only [not_or] at hd
      refine ⟨by rw [hmem, if_neg hd.1, if_neg hd.2], fun _ => ⟨by simp [g', hd.1], by simp [g', hd.1], fun r l hr => ⟨keepst r d l hr hd.2, heap_alloc_lt (own_lt hm.good hr)⟩⟩⟩
    · rw [hmem]
      by_cases h2 : d = nx
      · rw [if_pos h2]; exact ⟨AB.noConfusion, fun hf => absurd (h2 ▸ hnx) hf⟩
      · rw [if_neg h2, if_pos (hd.resolve_left h2)]
        exact ⟨AB.noConfusion, fun hf => ⟨⟨by simp [g', h2], by simp [g', h2]⟩, fun _ h => AB.noConfusion h, fun _ _ _ h => AB.noConfusion h⟩⟩
    · rw [hmem]
      by_cases h2 : d = nx
      · rw [if_pos h2]
        subst h2
        have hsz : cs.size = n * size := by have := hR.1; simp at this; omega
        refine .inr ⟨w.heap.size, cs, t, by simp [g'], by simp [g'], heap_alloc_at, by simpa [g'] using hsz, by simp [g', chunk_length], by simpa [g'] using hn, h1, fun i x hx => ?_, fun i x j p hx hpj => ?_⟩
        · obtain ⟨c1, c2⟩ := chunk_get _ _ _ _ _ hx
          have : (i + 1) * size ≤ n * size := Nat.mul_le_mul_right _ c1
          rw [c2, List.length_take, List.length_drop, p1, hl]
          rw [Nat.succ_mul] at this
          omega
        · obtain ⟨c1, c2⟩ := chunk_get _ _ _ _ _ hx
          rw [c2, List.getElem?_take] at hpj
          split at hpj
          · rename_i hj
            rw [List.getElem?_drop] at hpj
            have hlt := mul_lt_of c1 hj
            have hfl : i * size + j < fl.length := by omega
            obtain ⟨p', c, q1, q2, q3⟩ := p3 _ _ (List.getElem?_eq_getElem hfl)
            rw [q1] at hpj; cases hpj
            have hcs : i * size + j < cs.size := by omega
            refine ⟨cs[i * size + j], Array.getElem?_eq_getElem hcs, ?_⟩
            have hRA := hR.2 _ _ _ (List.getElem?_eq_getElem hfl) (by simp [hcs] : cs.toList[i * size + j]? = some cs[i * size + j])
            generalize cs[i * size + j] = v at hRA
            generalize fl[i * size + j] = a at hRA q3
            unfold toPV at q3
            split at q3
            · split at q3
              · cases q3
                cases hRA with
                | d _ _ h => cases h with
                  | nil a c => exact .nil _ _ _
                  | ls e xs q o c vs => exact .nil _ _ _
              · cases q3
            · rename_i p'' hne
              cases q3
              cases hRA with
              | d _ _ h =>
                refine h.flat ?_
                cases p with
                | ls xs => exact absurd rfl (hne xs)
                | _ => rfl
            · cases q3; cases hRA; exact .nil _ _ _
            · rename_i c'
              split at q3
              · rename_i e m xs hb
                cases q3
                have hb := rd_m hb
                cases hRA with
                | sl _ _ h _ =>
                  rw [hb] at h
                  simp only [slOK] at h
                  rw [h]
                  have hBc := hm.rm c'
                  rw [hb] at hBc
                  have hcu : c' ∈ u := (p6 c').2 (.inr ⟨_, q2⟩)
                  have hidx : csl.idxOf (some c') = i * size + j := by
                    have hlt' : csl.idxOf (some c') < csl.length := List.idxOf_lt_length_of_mem (List.mem_of_getElem? q2)
                    refine p4 _ _ c' ?_ q2
                    rw [List.getElem?_eq_getElem hlt', List.getElem_idxOf]
                  refine OW.of_block hBc (fun r hr => ?_) (fun r l hr => ?_) (fun r l hr => heap_alloc_lt (own_lt hm.good hr))
                  · have := own_lt hm.good hr
                    simp only [g']
                    rw [if_neg (by omega), hr]
                    simp [hcu, hidx]
                  · have := own_lt hm.good hr
                    simp only [g']
                    rw [if_neg (by omega), hr]
                    simp [hcu]
              · cases q3
            · cases q3
          · cases hpj
      · rw [if_neg h2, if_pos (hd.resolve_left h2)]; trivial
    · obtain ⟨a1, a2⟩ := hm.good.ok r hr
      exact ⟨by simp only [g']; rw [if_neg (by omega), a1], by simp; omega⟩
    · simp at hr
      simp only [g']
      rw [if_neg (by omega), hm.good.new r (by omega)]
    · rw [hmem]
      by_cases h2 : d = nx
      · rw [if_pos h2]; exact AB.noConfusion
      · rw [if_neg h2]
        by_cases h3 : d ∈ u
        · rw [if_pos h3]; exact AB.noConfusion
        · rw [if_neg h3]
          simp only [g'] at hr
          split at hr
          · cases hr; exact absurd rfl h2
          · split at hr
            · cases hr
            · rename_i hst
              split at hr
              · cases hr; exact absurd rfl h2
              · cases hr; exact hm.good.nf r d _ hst
  refine ⟨g', S, .sl _ _ ?_ rfl⟩
  rw [hmem, if_pos rfl]
  simp [slOK, hdr, g', chunk_length]

end Go.Proofs.Ytfeiaibdnnhlaaa
