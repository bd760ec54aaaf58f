import Derived.Test.Ytfeiaibdnnhlaaah
/- The abstract interpreter, part 9: append. -/
set_option linter.unusedSectionVars false
set_option linter.unusedVariables false
set_option linter.unusedSimpArgs false
namespace Go.Proofs.Ytfeiaibdnnhlaaa

theorem Step.nilNew {w : World} {g : Gh} {mem mem' : List AB} (hm : Mem w g mem) {bs src : Option Nat} {b2 e : Nat} (hb2 : lk mem b2 = .fut)
    (hmem : ∀ d, lk mem' d = if d = b2 then .ar e 0 [] else if bs = some d ∨ src = some d then .gone else lk mem d) :
    Step w g mem w { g with loc := fun x => if x = b2 then none else g.loc x } mem' := by
  refine Step.gen hm (fun d => d = b2 ∨ bs = some d ∨ src = some d) (Nat.le_refl _) rfl rfl (fun r _ hs => ⟨rfl, hs, id⟩) (fun r hr => hr) (fun d hd => ?_) (fun d hd => ?_) (fun K d hd => ?_) ⟨hm.good.ok, hm.good.new, fun r d l hr => ?_⟩
  · simp only [not_or] at hd
    obtain ⟨h1, h2, h3⟩ := hd
    exact ⟨by rw [hmem, if_neg h1, if_neg (by simp [h2, h3])], fun hf => ⟨by simp [h1], rfl, fun r l hr => ⟨hr, rfl⟩⟩⟩
  · rw [hmem]
    by_cases h1 : d = b2
    · rw [if_pos h1]; exact ⟨AB.noConfusion, fun hf => absurd (h1 ▸ hb2) hf⟩
    · rw [if_neg h1, if_pos (hd.resolve_left h1)]
      exact ⟨AB.noConfusion, fun hf => ⟨⟨by simp [h1], rfl⟩, fun _ h => AB.noConfusion h, fun _ _ _ h => AB.noConfusion h⟩⟩
  · rw [hmem]
    by_cases h1 : d = b2
    · rw [if_pos h1]; exact .inl ⟨by simp [h1], rfl⟩
    · rw [if_neg h1, if_pos (hd.resolve_left h1)]; trivial
  · rw [hmem]
    split
    · exact AB.noConfusion
    · split
      · exact AB.noConfusion
      · exact hm.good.nf r d l hr

theorem append_nilg {P : Program} {w : World} {t ty e : TypeId} {i : TypeInfo} {z : Value} (ht : P.underlying t = some (.slice e)) (hi : P.info? e = some i) (hz : i.zero = some z) (hzs : z.cells.size = i.size) (hz1 : ∀ v ∈ z.cells.toList, v.oneCell' = true)
    {a : Addr} {m c : Nat} {news : List Value} (hl : news.length = m * i.size) (hnews : ∀ (j : Nat) (v : Value), news[j]? = some v → w.cell? (a.add j) = some v) (h1 : ∀ u ∈ news, u.oneCell' = true)
    (h0 : 0 < m) (h63 : m ≤ maxLen) (hb : m * i.bytes ≤ 140737488355328) (q : Nat) :
    ∃ w' cap', (Builtin.append_ #[t, t] ty #[.slice none 0 0, .slice (some a) m c]).run P w = .ok (.slice (some ⟨w.heap.size, 0, none⟩) m cap') w' ∧ Grown w w' q w.heap.size cap' #[] news m 0 i.size := by
  have hm2 : maxLen ≤ 9223372036854775807 := by decide
  have hr := run_append_nil (P := P) w t ty e i z ht hi hz a m c news hl hnews h0 (by omega) (by omega)
  refine ⟨_, _, hr, ⟨⟨_, e, heap_alloc_at, ?_, fun v hv => ?_, fun j hj => by omega, fun j u hj => ?_⟩, by simpa using grownCap_ge _ _ _ _, grownCap_le_maxLen _ _ _ _ h63, by simp, fun r hr _ => heap_alloc_lt hr, .inr ⟨rfl, by simp⟩, rfl, rfl⟩⟩
  · have hge := grownCap_ge w m 0 e
    simp only [Array.size_append, List.size_toArray, size_zeroCells, hzs, hl, ← Nat.add_mul]
    congr 1
    omega
  · simp only [Array.toList_append, List.mem_append] at hv
    rcases hv with hv | hv
    · exact h1 v (by simpa using hv)
    · exact zeroCells_one hz1 _ v hv
  · have hjl : j < news.length := by
      rcases Nat.lt_or_ge j news.length with h | h
      · exact h
      · rw [List.getElem?_eq_none h] at hj; cases hj
    rw [Nat.zero_mul, Nat.zero_add, Array.getElem?_append_left (by simpa using hjl)]
    simpa using hj

theorem append_core {P : Program} {tt : TypeId → Option TI} (hT : TTok P tt) {σ : AS} {w : World} {g : Gh} (hm : Mem w g σ.mem) {t ty el : TypeId} {i j : TI} (ht : tt t = some i) (hu : i.ud = .slice el) (he : tt el = some j) {z : List PV} (hz : j.zero = some z)
    {x : AV} {vs vx : Value} {xs ys : List (List PV)} {bs src : Option Nat} {b2 : Nat} (hb2 : lk σ.mem b2 = .fut)
    (hbase : (vs = .slice none 0 0 ∧ xs = [] ∧ ∀ b, bs = some b → lk σ.mem b ≠ .fut) ∨ ∃ b n, bs = some b ∧ lk σ.mem b = .ar j.size n xs ∧ RA w g σ.mem (.sl b) vs)
    (hx : RA w g σ.mem x vx) (hys : alist σ.rd x = some ys) (hw : widthOk j.size ys = true) (h0 : 0 < j.size) (hby : (xs.length + ys.length) * j.bytes ≤ 140737488355328)
    (hsrc : (src = none ∧ flatL ys = true) ∨ ∃ c n, src = some c ∧ x = .sl c ∧ lk σ.mem c = .ar j.size n ys ∧ bs ≠ some c) (hml : xs.length + ys.length ≤ maxLen)
    {mem' : List AB} (hmem : ∀ d, lk mem' d = if d = b2 then .ar j.size 0 (xs ++ ys) else if bs = some d ∨ src = some d then .gone else lk σ.mem d) :
    ∃ v w' g', (Builtin.append_ #[t, t] ty #[vs, vx]).run P w = .ok v w' ∧ Step w g σ.mem w' g' mem' ∧ RA w' g' mem' (.sl b2) v := by
  have hun := und_slice hT ht hu
  obtain ⟨ti, i1, i2, i3, i4, _⟩ := hT el j he
  obtain ⟨zl, zok, zv, z1, z2⟩ := i4 z hz
  have hzs : zv.cells.size = ti.size := by
    have := congrArg List.length z2
    simp at this
    omega
  have hone : ∀ v ∈ zv.cells.toList, v.oneCell' = true := by
    intro v hv
    rw [z2, List.mem_map] at hv
    obtain ⟨p, _, rfl⟩ := hv
    cases p <;> rfl
  obtain ⟨base, cx, hvx, hcx, hread⟩ := alist_run hm hx hys
  have hbsf : ∀ b, bs = some b → lk σ.mem b ≠ .fut := by
    intro b hb
    rcases hbase with ⟨_, _, h⟩ | ⟨b', n, h1, h2, _⟩
    · exact h b hb
    · rw [h1] at hb; cases hb; rw [h2]; exact AB.noConfusion
  have hsc : ∀ c, src = some c → lk σ.mem c ≠ .fut ∧ bs ≠ some c := by
    intro c hc
    rcases hsrc with ⟨h, _⟩ | ⟨c', n, h1, _, h3, h4⟩
    · rw [h] at hc; cases hc
    · rw [h1] at hc; cases hc; exact ⟨by rw [h3]; exact AB.noConfusion, h4⟩
  have mk : ∀ (g' : Gh) (w' : World) (v : Value), Step w g σ.mem w' g' mem' → v = hdr g' b2 (xs ++ ys).length → RA w' g' mem' (.sl b2) v := by
    intro g' w' v _ hv
    refine .sl b2 v ?_ (by rw [hv]; unfold hdr; split <;> rfl)
    rw [hmem, if_pos rfl]
    exact hv
  by_cases hy0 : ys = []
  · subst hy0
    rcases hbase with ⟨h1, h2, _⟩ | ⟨b, n, h1, h2, h3⟩
    · subst h1; subst h2
      have S := Step.nilNew (bs := bs) (src := src) hm hb2 (mem' := mem') (e := j.size) (by intro d; rw [hmem]; rfl)
      refine ⟨.slice none 0 0, w, _, ?_, S, mk _ _ _ S (by simp [hdr])⟩
      rw [hvx]
      exact append_zero hun i1 (Nat.le_refl _)
    · have hB := hm.rm b
      rw [h2] at hB
      cases h3 with
      | sl _ _ h4 _ =>
        rw [h2] at h4
        simp only [slOK] at h4
        rcases hB with ⟨g1, g2⟩ | ⟨q, cs, t', e1, e2, e3, e4, e5, e6, e7, e8, e9⟩
        · subst g2
          simp only [hdr, g1] at h4
          subst h4
          have S := Step.nilNew (bs := bs) (src := src) hm hb2 (mem' := mem') (e := j.size) (by intro d; rw [hmem]; rfl)
          refine ⟨.slice none 0 0, w, _, ?_, S, mk _ _ _ S (by simp [hdr])⟩
          rw [hvx]
          exact append_zero hun i1 (Nat.le_refl _)
        · simp only [hdr, e1] at h4
          have hG : Grown w w q q (g.cap b) cs [] 0 xs.length j.size :=
            ⟨⟨cs, t', e3, e4, e7, fun _ _ => rfl, fun j u h => by simp at h⟩, by omega, e6, Nat.le_refl _, fun _ _ _ => rfl, .inl rfl, rfl, rfl⟩
          have S := Step.ap (bs := bs) (src := src) (qs := 0) (ys := []) hm hG rfl h0 hb2 hbsf hsc (.inr ⟨b, h1, e2⟩) (fun b' hb' _ => by rw [h1] at hb'; cases hb'; exact e2) (fun _ _ h => by simp at h) e8 (fun i y h => by simp at h)
            (fun i x j p hi hj => by obtain ⟨v, hv, ho⟩ := e9 i x j p hi hj; exact ⟨b, v, h1, hv, ho⟩) (fun i y j p h _ => by simp at h) hmem
          refine ⟨vs, w, _, ?_, S, mk _ _ _ S (by rw [h4]; simp [hdr, Gh.ap])⟩
          rw [h4, hvx]
          exact append_zero hun i1 e5
  · obtain ⟨q', o', e', hbase', hwe, hcell⟩ := hread.resolve_left hy0
    have hyl : 0 < ys.length := List.length_pos_iff.2 hy0
    have hee : e' = j.size := by
      have h := List.getElem?_eq_getElem (l := ys) hyl
      rw [← hwe 0 _ h]; exact widthOk_iff.1 hw 0 _ h
    subst hee
    obtain ⟨news, n1, n2, n3, n4⟩ := source_list hwe h0 (fun i x j p a b => by obtain ⟨u, h1, h2⟩ := hcell i x j p a b; exact ⟨u, h1, h2.oneCell⟩)
    subst hbase'
    have hqs : ∃ qs, (∀ c, src = some c → 0 < ys.length → g.st qs = .own c none) ∧ ∀ (i : Nat) (y : List PV) (j' : Nat) (p : PV), ys[i]? = some y → y[j']? = some p → ∃ v, news[i * j.size + j']? = some v ∧
        ((flatP p = true ∧ RO w (fun _ => True) p v) ∨ ∃ c, src = some c ∧ OW w g.st c (qs, i * j.size + j') p v) := by
      rcases hsrc with ⟨h1, h2⟩ | ⟨c, n, h1, h2, h3, _⟩
      · refine ⟨0, ⟨fun c hc => (by rw [h1] at hc; cases hc), fun i y j' p hi hj => ?_⟩⟩
        obtain ⟨u, h4, h5⟩ := hcell i y j' p hi hj
        refine ⟨u, by rw [n4 i y j' p hi hj]; exact h4, .inl ⟨?_, h5⟩⟩
        simp only [flatL, List.all_eq_true] at h2
        exact h2 y (List.mem_of_getElem? hi) p (List.mem_of_getElem? hj)
      · subst h2
        have hB := hm.rm c
        rw [h3] at hB
        cases hx with
        | sl _ _ h4 _ =>
          rw [h3] at h4
          simp only [slOK] at h4
          rcases hB with ⟨g1, g2⟩ | ⟨q, cs, t', e1, e2, e3, e4, e5, e6, e7, e8, e9⟩
          · exact absurd g2 hy0
          · simp only [hdr, e1] at h4
            rw [hvx] at h4
            cases h4
            refine ⟨q', ⟨fun c' hc' _ => (by rw [h1] at hc'; cases hc'; exact e2), fun i y j' p hi hj => ?_⟩⟩
            obtain ⟨v, hv, ho⟩ := e9 i y j' p hi hj
            refine ⟨v, ?_, .inr ⟨c, h1, ho⟩⟩
            rw [n4 i y j' p hi hj, cell_of_block e3, Nat.zero_add]
            exact hv
    obtain ⟨qs, hqs1, hqs2⟩ := hqs
    have nilCase : vs = .slice none 0 0 → xs = [] → ∃ v w' g', (Builtin.append_ #[t, t] ty #[vs, vx]).run P w = .ok v w' ∧ Step w g σ.mem w' g' mem' ∧ RA w' g' mem' (.sl b2) v := by
      intro h1 h2
      subst h1; subst h2
      obtain ⟨w', cap', hr, hG⟩ := append_nilg (P := P) (w := w) (t := t) (ty := ty) hun i1 z1 hzs hone (m := ys.length) (c := cx) (by rw [n1, i2]) n2 n3 hyl (by simpa using hml) (by rw [i3]; simpa using hby) 0
      rw [i2] at hG
      have S := Step.ap (bs := bs) (src := src) (qs := qs) (xs := []) (ys := ys) hm hG rfl h0 hb2 hbsf hsc (.inl rfl) (fun _ _ h => by simp at h) hqs1 (fun i x h => by simp at h) hwe
        (fun i x j p h _ => by simp at h) hqs2 hmem
      refine ⟨_, w', _, by rw [hvx]; exact hr, S, mk _ _ _ S (by simp [hdr, Gh.ap])⟩
    rcases hbase with ⟨h1, h2, _⟩ | ⟨b, n, h1, h2, h3⟩
    · exact nilCase h1 h2
    · have hB := hm.rm b
      rw [h2] at hB
      cases h3 with
      | sl _ _ h4 _ =>
        rw [h2] at h4
        simp only [slOK] at h4
        rcases hB with ⟨g1, g2⟩ | ⟨q, cs, t', e1, e2, e3, e4, e5, e6, e7, e8, e9⟩
        · subst g2
          simp only [hdr, g1] at h4
          exact nilCase h4 rfl
        · simp only [hdr, e1] at h4
          have fin : ∀ (k cap : Nat) (w' : World), (Builtin.append_ #[t, t] ty #[vs, vx]).run P w = .ok (.slice (some ⟨k, 0, none⟩) (xs.length + ys.length) cap) w' → Grown w w' q k cap cs news ys.length xs.length j.size → (k = w.heap.size ∨ k = q) →
              ∃ v w' g', (Builtin.append_ #[t, t] ty #[vs, vx]).run P w = .ok v w' ∧ Step w g σ.mem w' g' mem' ∧ RA w' g' mem' (.sl b2) v := by
            intro k cap w' hr hG hk
            have S := Step.ap (bs := bs) (src := src) (qs := qs) (xs := xs) (ys := ys) hm hG rfl h0 hb2 hbsf hsc (hk.imp id (fun h => ⟨b, h1, by rw [h]; exact e2⟩)) (fun b' hb' _ => by rw [h1] at hb'; cases hb'; exact e2) hqs1 e8 hwe
              (fun i x j p hi hj => by obtain ⟨v, hv, ho⟩ := e9 i x j p hi hj; exact ⟨b, v, h1, hv, ho⟩) hqs2 hmem
            exact ⟨_, w', _, hr, S, mk _ _ _ S (by simp [hdr, Gh.ap])⟩
          by_cases hroom : xs.length + ys.length ≤ g.cap b
          · obtain ⟨w', hr, hG⟩ := append_room (P := P) (w := w) (t := t) (ty := ty) hun i1 e3 (by rw [i2]; exact e4) e7 e6 (m := ys.length) (c := cx) (by rw [n1, i2]) n2 n3 hroom
            rw [i2] at hG
            exact fin q (g.cap b) w' (by rw [h4, hvx]; exact hr) hG (.inr rfl)
          · obtain ⟨w', cap', hr, hG⟩ := append_grow (P := P) (w := w) (t := t) (ty := ty) hun i1 z1 hzs hone e3 (by rw [i2]; exact e4) e5 e7 (m := ys.length) (c := cx) (by rw [n1, i2]) n2 n3 (by omega) hml (by rw [i3]; exact hby)
            rw [i2] at hG
            exact fin _ cap' w' (by rw [h4, hvx]; exact hr) hG (.inl rfl)

theorem maxLen_of_bytes {n bytes : Nat} (h : n * bytes ≤ 140737488355328) (hb : 0 < bytes) : n ≤ maxLen := by
  have : n * 1 ≤ n * bytes := Nat.mul_le_mul_left _ hb
  have h2 : (140737488355328 : Nat) ≤ maxLen := by decide
  omega

/-- A source that is given with its block. -/
theorem given_block {σ : AS} {w : World} {g : Gh} (hm : Mem w g σ.mem) {c size : Nat} {ys : List (List PV)} (hys : alist σ.rd (.sl c) = some ys) (hw : widthOk size ys = true) (hf : ¬ flatL ys = true) :
    ∃ n, lk σ.mem c = .ar size n ys := by
  simp only [alist] at hys
  split at hys
  · rename_i e n xs' hb
    cases hys
    have hb := rd_m hb
    refine ⟨n, ?_⟩
    have hne : ys ≠ [] := by intro h; subst h; exact hf rfl
    have hl : 0 < ys.length := List.length_pos_iff.2 hne
    have h0 := List.getElem?_eq_getElem (l := ys) hl
    have hB := hm.rm c
    rw [hb] at hB
    rcases hB with ⟨_, g2⟩ | ⟨q, cs, t', e1, e2, e3, e4, e5, e6, e7, e8, e9⟩
    · exact absurd g2 hne
    · have : e = size := by rw [← e8 0 _ h0]; exact widthOk_iff.1 hw 0 _ h0
      rw [hb, this]
  · cases hys

theorem aappend_run {P : Program} {tt : TypeId → Option TI} (hT : TTok P tt) {σ : AS} {w : World} {g : Gh} (hm : Mem w g σ.mem) {t ty el : TypeId} {i j : TI} (ht : tt t = some i) (hu : i.ud = .slice el) (he : tt el = some j) {z : List PV} (hz : j.zero = some z)
    {s x av : AV} {vs vx : Value} {nx : Nat} (hnx : lk σ.mem nx = .fut) (hs : RA w g σ.mem s vs) (hx : RA w g σ.mem x vx) {ws : List (Nat × AB)} (h : aappend σ.rd nx j s x = some (av, ws)) :
    ∃ v w' g', (Builtin.append_ #[t, t] ty #[vs, vx]).run P w = .ok v w' ∧ Step w g σ.mem w' g' (appW ws σ.mem) ∧ RA w' g' (appW ws σ.mem) av v := by
  unfold aappend at h
  split at h
  · cases hs
    split at h
    · rename_i ys hys
      split at h
      · rename_i hc
        simp only [Bool.and_eq_true, decide_eq_true_eq] at hc
        obtain ⟨⟨⟨c1, c2⟩, c3⟩, c4⟩ := hc
        split at h
        · rename_i hf
          cases h
          exact append_core hT hm ht hu he hz (bs := none) (src := none) (xs := []) hnx (.inl ⟨rfl, rfl, fun _ h => by cases h⟩) hx hys c1 c2 (by simpa using c4) (.inl ⟨rfl, hf⟩)
            (by simpa using maxLen_of_bytes c4 c3) (fun d => by simp only [appW, List.foldl_cons, List.foldl_nil, lk_setB]; simp)
        · rename_i hf
          split at h
          · rename_i c
            cases h
            obtain ⟨n, hb⟩ := given_block hm hys c1 hf
            exact append_core hT hm ht hu he hz (bs := none) (src := some c) (xs := []) hnx (.inl ⟨rfl, rfl, fun _ h => by cases h⟩) hx hys c1 c2 (by simpa using c4) (.inr ⟨c, n, rfl, rfl, hb, by simp⟩)
              (by simpa using maxLen_of_bytes c4 c3) (fun d => by simp only [appW, List.foldl_cons, List.foldl_nil, lk_setB]; simp [eq_comm])
          · cases h
      · cases h
    · cases h
  · rename_i b
    split at h
    · rename_i e n xs hb
      have hb := rd_m hb
      split at h
      · rename_i ys hys
        split at h
        · rename_i hc
          simp only [Bool.and_eq_true, decide_eq_true_eq, beq_iff_eq] at hc
          obtain ⟨⟨⟨⟨c0, c1⟩, c2⟩, c3⟩, c4⟩ := hc
          subst c0
          split at h
          · rename_i hf
            cases h
            exact append_core hT hm ht hu he hz (bs := some b) (src := none) (xs := xs) hnx (.inr ⟨b, n, rfl, hb, hs⟩) hx hys c1 c2 c4 (.inl ⟨rfl, hf⟩)
              (maxLen_of_bytes c4 c3) (fun d => by simp only [appW, List.foldl_cons, List.foldl_nil, lk_setB]; simp [eq_comm])
          · rename_i hf
            split at h
            · rename_i c
              split at h
              · cases h
              · rename_i hcb
                cases h
                obtain ⟨n', hb'⟩ := given_block hm hys c1 hf
                exact append_core hT hm ht hu he hz (bs := some b) (src := some c) (xs := xs) hnx (.inr ⟨b, n, rfl, hb, hs⟩) hx hys c1 c2 c4 (.inr ⟨c, n', rfl, rfl, hb', fun h => hcb (by simpa using h.symm)⟩)
                  (maxLen_of_bytes c4 c3) (fun d => by
                    simp only [appW, List.foldl_cons, List.foldl_nil, lk_setB]
                    by_cases h1 : d = nx
                    · simp [h1]
                    · by_cases h2 : d = b
                      · simp [h1, h2]
                      · by_cases h3 : d = c
                        · simp [h1, h2, h3]
                        · simp [h1, h2, h3, Ne.symm h2, Ne.symm h3])
            · cases h
        · cases h
      · cases h
    · cases h
  · cases h

end Go.Proofs.Ytfeiaibdnnhlaaa
