import Derived.Test.Ytfeiaibdnnhlaaag
import Derived.Laws.CopyRow
/- The abstract interpreter, part 8: operations that make blocks: append above all. -/
set_option linter.unusedSectionVars false
set_option linter.unusedVariables false
set_option linter.unusedSimpArgs false
namespace Go.Proofs.Ytfeiaibdnnhlaaa

/-- A general step: what is touched is told; all else is as it was. -/
theorem Step.gen {w w' : World} {g g' : Gh} {mem mem' : List AB} (hm : Mem w g mem) (T : Nat → Prop)
    (hsize : w.heap.size ≤ w'.heap.size) (hos : w'.os = w.os) (hout : w'.output = w.output)
    (hro : ∀ r, r < w.heap.size → g.st r = .ro → w'.heap[r]? = w.heap[r]? ∧ g'.st r = .ro ∧ (g'.ok r → g.ok r))
    (hok : ∀ r, g.ok r → g'.ok r)
    (hN : ∀ d, ¬ T d → lk mem' d = lk mem d ∧ (lk mem d ≠ .fut → g'.loc d = g.loc d ∧ g'.cap d = g.cap d ∧ ∀ r l, g.st r = .own d l → g'.st r = .own d l ∧ w'.heap[r]? = w.heap[r]?))
    (hT : ∀ d, T d → lk mem' d ≠ .fut ∧ (lk mem d ≠ .fut → (g'.loc d = g.loc d ∧ g'.cap d = g.cap d) ∧ (∀ cells, lk mem' d = .sv cells → ∃ c0, lk mem d = .sv c0) ∧
      (∀ e n xs, lk mem' d = .ar e n xs → ∃ n0 xs0, lk mem d = .ar e n0 xs0 ∧ xs0.length = xs.length ∧ n0 < n)))
    (hB : Keep w g mem w' g' mem' → ∀ d, T d → BR w' g' mem' d (lk mem' d))
    (hgood : Good w' g' mem') : Step w g mem w' g' mem' := by
  have K : Keep w g mem w' g' mem' := by
    refine ⟨fun r hr => ⟨hok r hr, fun o u hc => ?_⟩, fun d hd => ?_, fun d cells hd h => ?_, fun d e n xs hd h => ?_⟩
    · obtain ⟨h1, h2⟩ := hm.good.ok r hr
      rw [World.cell?_of_block (a := ⟨r, o, none⟩) (hro r h2 h1).1]; exact hc
    · by_cases t : T d
      · exact (hT d t).1
      · rw [(hN d t).1]; exact hd
    · by_cases t : T d
      · obtain ⟨h1, h2, _⟩ := (hT d t).2 hd
        exact ⟨h2 cells h, h1.1⟩
      · obtain ⟨h1, h2⟩ := hN d t
        exact ⟨⟨cells, h1 ▸ h⟩, (h2 hd).1⟩
    · by_cases t : T d
      · obtain ⟨h1, _, h3⟩ := (hT d t).2 hd
        obtain ⟨n0, xs0, a1, a2, a3⟩ := h3 e n xs h
        exact ⟨n0, xs0, a1, a2, by omega, h1.1, h1.2, fun h => by omega⟩
      · obtain ⟨h1, h2⟩ := hN d t
        obtain ⟨a1, a2, a3⟩ := h2 hd
        refine ⟨n, xs, h1 ▸ h, rfl, Nat.le_refl _, a1, a2, fun _ r l hr => ?_⟩
        obtain ⟨b1, b2⟩ := a3 r l hr
        exact ⟨b1, fun o u hc => by rw [World.cell?_of_block (a := ⟨r, o, none⟩) b2]; exact hc⟩
  refine ⟨⟨hgood, fun d => ?_⟩, K, ⟨hsize, hro, fun d hd => ?_, hos, hout⟩⟩
  · by_cases t : T d
    · exact hB K d t
    · obtain ⟨h1, h2⟩ := hN d t
      by_cases hf : lk mem d = .fut
      · rw [h1, hf]; trivial
      · obtain ⟨a1, a2, a3⟩ := h2 hf
        rw [h1]
        exact (hm.rm d).keep K a1 a2 a3
  · by_cases t : T d
    · exact ((hT d t).2 hd).1
    · have := (hN d t).2 hd
      exact ⟨this.1, this.2.1⟩

theorem AB.ne_fut_of_ar {x : AB} {e n : Nat} {xs : List (List PV)} (h : x = .ar e n xs) : x ≠ .fut := by rw [h]; exact AB.noConfusion

section
variable {P : Program} {w : World}

/-- What a source of append holds: its values, one behind the other. -/
theorem source_list {ys : List (List PV)} {size q o : Nat} (hw : ∀ (i : Nat) (x : List PV), ys[i]? = some x → x.length = size) (h0 : 0 < size)
    (hc : ∀ (i : Nat) (x : List PV) (j : Nat) (p : PV), ys[i]? = some x → x[j]? = some p → ∃ u, w.cell? ⟨q, o + i * size + j, none⟩ = some u ∧ u.oneCell' = true) :
    ∃ news : List Value, news.length = ys.length * size ∧ (∀ (k : Nat) (u : Value), news[k]? = some u → w.cell? ((⟨q, o, none⟩ : Addr).add k) = some u) ∧ (∀ u ∈ news, u.oneCell' = true) ∧
      ∀ (i : Nat) (x : List PV) (j : Nat) (p : PV), ys[i]? = some x → x[j]? = some p → news[i * size + j]? = w.cell? ⟨q, o + i * size + j, none⟩ := by
  have hk : ∀ k, k < ys.length * size → ∃ u, w.cell? ⟨q, o + k, none⟩ = some u ∧ u.oneCell' = true := by
    intro k hk
    have hi : k / size < ys.length := (Nat.div_lt_iff_lt_mul h0).2 hk
    have hj : k % size < size := Nat.mod_lt _ h0
    have hx := hw _ _ (List.getElem?_eq_getElem hi)
    obtain ⟨u, hu, h1⟩ := hc (k / size) _ (k % size) _ (List.getElem?_eq_getElem hi) (List.getElem?_eq_getElem (by omega))
    refine ⟨u, ?_, h1⟩
    have : o + k / size * size + k % size = o + k := by have := Nat.div_add_mod k size; rw [Nat.mul_comm] at this; omega
    rw [← this]; exact hu
  refine ⟨(List.range (ys.length * size)).map fun k => (w.cell? ⟨q, o + k, none⟩).getD undef, by simp, fun k u hu => ?_, fun u hu => ?_, fun i x j p hx hp => ?_⟩
  · by_cases hkn : k < ys.length * size
    · rw [List.getElem?_map, List.getElem?_range hkn] at hu
      cases hu
      obtain ⟨u, h2, _⟩ := hk k hkn
      simp only [add_at, h2, Option.getD_some]
    · rw [List.getElem?_eq_none (by simpa using hkn)] at hu; cases hu
  · simp only [List.mem_map, List.mem_range] at hu
    obtain ⟨k, h1, rfl⟩ := hu
    obtain ⟨u, h2, h3⟩ := hk k h1
    rw [h2]; exact h3
  · have hi : i < ys.length := by
      rcases Nat.lt_or_ge i ys.length with h | h
      · exact h
      · rw [List.getElem?_eq_none h] at hx; cases hx
    have hj : j < size := by
      rw [← hw i x hx]
      rcases Nat.lt_or_ge j x.length with h | h
      · exact h
      · rw [List.getElem?_eq_none h] at hp; cases hp
    have hlt := mul_lt_of hi hj
    obtain ⟨u, h2, _⟩ := hk _ hlt
    rw [List.getElem?_map, List.getElem?_range hlt]
    rw [← Nat.add_assoc] at h2
    simp only [Option.map_some, ← Nat.add_assoc, h2, Option.getD_some]

/-- What append leaves: a block k with the old cells, the new ones behind them, and room. -/
structure Grown (w w' : World) (q k cap : Nat) (old : Array Value) (news : List Value) (m n e : Nat) : Prop where
  blk : ∃ cs t, w'.heap[k]? = some (.cells cs t (0, 0)) ∧ cs.size = cap * e ∧ (∀ v ∈ cs.toList, v.oneCell' = true) ∧
    (∀ j, j < n * e → cs[j]? = old[j]?) ∧ ∀ j u, news[j]? = some u → cs[n * e + j]? = some u
  room : n + m ≤ cap
  max : cap ≤ maxLen
  size : w.heap.size ≤ w'.heap.size
  other : ∀ r, r < w.heap.size → r ≠ k → w'.heap[r]? = w.heap[r]?
  which : k = q ∨ (k = w.heap.size ∧ w'.heap.size = w.heap.size + 1)
  os : w'.os = w.os
  out : w'.output = w.output

theorem append_zero {t ty e : TypeId} {i : TypeInfo} (ht : P.underlying t = some (.slice e)) (hi : P.info? e = some i) {base a : Option Addr} {n cap c : Nat} (h : n ≤ cap) :
    (Builtin.append_ #[t, t] ty #[.slice base n cap, .slice a 0 c]).run P w = .ok (.slice base n cap) w := by
  cases base <;> cases a <;> simp [Builtin.append_, run_underlying ht, sizeOf, typeInfo, hi, Builtin.lenOf, Builtin.firstCells, loadCells, loadCellsFrom, h, storeCells]

theorem zeroCells_one {z : Value} (hz : ∀ v ∈ z.cells.toList, v.oneCell' = true) (n : Nat) : ∀ v ∈ (Builtin.zeroCells z.cells n).toList, v.oneCell' = true := by
  intro v hv
  simp only [Builtin.zeroCells, Array.toList_map, Array.toList_range, List.mem_map, List.mem_range] at hv
  obtain ⟨k, hk, rfl⟩ := hv
  have h0 : 0 < z.cells.size := by
    rcases Nat.eq_zero_or_pos z.cells.size with h | h
    · rw [h] at hk; omega
    · exact h
  have := Nat.mod_lt k h0
  rw [getElem!_pos z.cells (k % z.cells.size) this]
  exact hz _ (Array.getElem_mem_toList this)

theorem append_grow {t ty e : TypeId} {i : TypeInfo} {z : Value} (ht : P.underlying t = some (.slice e)) (hi : P.info? e = some i) (hz : i.zero = some z) (hzs : z.cells.size = i.size) (hz1 : ∀ v ∈ z.cells.toList, v.oneCell' = true)
    {q n cap : Nat} {old : Array Value} {t' : TypeId} (hq : w.heap[q]? = some (.cells old t' (0, 0))) (hsz : old.size = cap * i.size) (hn : n ≤ cap) (hold1 : ∀ v ∈ old.toList, v.oneCell' = true)
    {a : Addr} {m c : Nat} {news : List Value} (hl : news.length = m * i.size) (hnews : ∀ (j : Nat) (v : Value), news[j]? = some v → w.cell? (a.add j) = some v) (h1 : ∀ u ∈ news, u.oneCell' = true)
    (hg : cap < n + m) (h63 : n + m ≤ maxLen) (hb : (n + m) * i.bytes ≤ 140737488355328) :
    ∃ w' cap', (Builtin.append_ #[t, t] ty #[.slice (some ⟨q, 0, none⟩) n cap, .slice (some a) m c]).run P w = .ok (.slice (some ⟨w.heap.size, 0, none⟩) (n + m) cap') w' ∧ Grown w w' q w.heap.size cap' old news m n i.size := by
  have hle : n * i.size ≤ old.size := by rw [hsz]; exact Nat.mul_le_mul_right _ hn
  have holds : ∀ (j : Nat) (v : Value), (old.toList.take (n * i.size))[j]? = some v → w.cell? ((⟨q, 0, none⟩ : Addr).add j) = some v := by
    intro j v hv
    rw [add_at, cell_of_block hq, Nat.zero_add]
    rw [List.getElem?_take] at hv
    split at hv
    · simpa using hv
    · cases hv
  have hol : (old.toList.take (n * i.size)).length = n * i.size := by simp; omega
  have hm2 : maxLen ≤ 9223372036854775807 := by decide
  have hr := run_append_grow (P := P) w t ty e i z ht hi hz ⟨q, 0, none⟩ n cap _ hol holds a m c news hl hnews hg (by omega) (growslice_fits (by omega) hb)
  refine ⟨_, _, hr, ⟨⟨_, e, heap_alloc_at, ?_, fun v hv => ?_, fun j hj => ?_, fun j u hj => ?_⟩, grownCap_ge _ _ _ _, grownCap_le_maxLen _ _ _ _ h63, by simp, fun r hr _ => heap_alloc_lt hr, .inr ⟨rfl, by simp⟩, rfl, rfl⟩⟩
  · have hge := grownCap_ge w (n + m) cap e
    simp only [Array.size_append, List.size_toArray, size_zeroCells, hzs, hol, hl, ← Nat.add_mul]
    congr 1
    omega
  · simp only [Array.toList_append, List.mem_append] at hv
    rcases hv with (hv | hv) | hv
    · exact hold1 v (List.mem_of_mem_take (by simpa using hv))
    · exact h1 v (by simpa using hv)
    · exact zeroCells_one hz1 _ v hv
  · rw [Array.append_assoc, Array.getElem?_append_left (by simpa [hol] using hj)]
    simp only [List.getElem?_toArray]
    rw [List.getElem?_take, if_pos hj]
    simp
  · have hjl : j < news.length := by
      rcases Nat.lt_or_ge j news.length with h | h
      · exact h
      · rw [List.getElem?_eq_none h] at hj; cases hj
    rw [Array.append_assoc, Array.getElem?_append_right (by simp [hol])]
    rw [Array.getElem?_append_left (by simp [hol]; omega)]
    simp only [List.getElem?_toArray, List.size_toArray, hol]
    rw [Nat.add_sub_cancel_left]; exact hj

theorem append_room {t ty e : TypeId} {i : TypeInfo} (ht : P.underlying t = some (.slice e)) (hi : P.info? e = some i)
    {q n cap : Nat} {old : Array Value} {t' : TypeId} (hq : w.heap[q]? = some (.cells old t' (0, 0))) (hsz : old.size = cap * i.size) (hold1 : ∀ v ∈ old.toList, v.oneCell' = true) (hcm : cap ≤ maxLen)
    {a : Addr} {m c : Nat} {news : List Value} (hl : news.length = m * i.size) (hnews : ∀ (j : Nat) (v : Value), news[j]? = some v → w.cell? (a.add j) = some v) (h1 : ∀ u ∈ news, u.oneCell' = true)
    (hroom : n + m ≤ cap) :
    ∃ w', (Builtin.append_ #[t, t] ty #[.slice (some ⟨q, 0, none⟩) n cap, .slice (some a) m c]).run P w = .ok (.slice (some ⟨q, 0, none⟩) (n + m) cap) w' ∧ Grown w w' q q cap old news m n i.size := by
  have hfit : n * i.size + news.length ≤ old.size := by rw [hl, hsz, ← Nat.add_mul]; exact Nat.mul_le_mul_right _ hroom
  have hf := run_firstCells_some (P := P) w i.size m a m c news hl hnews
  have hst := run_storeCells_at P q (n * i.size) t' news 0 old w hq (by simpa using hfit) h1
  simp only [Nat.add_zero] at hst
  rw [List.append_assoc] at hst
  refine ⟨w.setRow q (old.toList.take (n * i.size) ++ (news ++ old.toList.drop (n * i.size + news.length))).toArray, by simp [Builtin.append_, run_underlying ht, sizeOf, typeInfo, hi, Builtin.lenOf, hroom, hf, Addr.add_lit, hst], ⟨⟨_, t', setRow_heap w q old _ t' _ hq, ?_, fun v hv => ?_, fun j hj => ?_, fun j u hj => ?_⟩, hroom, hcm, ?_, fun r _ hr => setRow_other w q r _ hr, .inl rfl, rfl, rfl⟩⟩
  · simp; omega
  · simp only [List.append_assoc, List.mem_append] at hv
    rcases hv with hv | hv | hv
    · exact hold1 v (List.mem_of_mem_take hv)
    · exact h1 v hv
    · exact hold1 v (List.mem_of_mem_drop hv)
  · simp only [List.getElem?_toArray, List.append_assoc]
    rw [List.getElem?_append_left (by simp; omega), List.getElem?_take, if_pos hj]
    simp
  · have hjl : j < news.length := by
      rcases Nat.lt_or_ge j news.length with h | h
      · exact h
      · rw [List.getElem?_eq_none h] at hj; cases hj
    have hol : (old.toList.take (n * i.size)).length = n * i.size := by simp; omega
    simp only [List.getElem?_toArray, List.append_assoc]
    rw [List.getElem?_append_right (by omega), hol, Nat.add_sub_cancel_left, List.getElem?_append_left hjl]
    exact hj
  · simp [World.setRow]

end

/-- The ghost behind an append: the block k is now b2's; what the base and a source that is given owned is held from k. -/
def Gh.ap (g : Gh) (bs src : Option Nat) (b2 q qs k cap shift : Nat) : Gh :=
  { st := fun r => if r = k then .own b2 none else match g.st r with
      | .ro => .ro
      | .own d m => if bs = some d then (match m with
          | none => .ro
          | some (p, o) => .own b2 (some (if p = q then (k, o) else (p, o))))
        else if src = some d then (match m with
          | none => .ro
          | some (p, o) => .own b2 (some (if p = qs then (k, shift + o) else (p, o))))
        else .own d m
    loc := fun x => if x = b2 then some k else g.loc x
    cap := fun x => if x = b2 then cap else g.cap x
    ok := g.ok }

theorem Step.ap {w w' : World} {g : Gh} {mem mem' : List AB} (hm : Mem w g mem) {bs src : Option Nat} {b2 q qs k cap e m : Nat} {xs ys : List (List PV)} {old : Array Value} {news : List Value}
    (hG : Grown w w' q k cap old news m xs.length e) (hml : m = ys.length) (he : 0 < e) (hb2 : lk mem b2 = .fut)
    (hbs : ∀ b, bs = some b → lk mem b ≠ .fut) (hsc : ∀ c, src = some c → lk mem c ≠ .fut ∧ bs ≠ some c)
    (hk : k = w.heap.size ∨ ∃ b, bs = some b ∧ g.st k = .own b none)
    (hq : ∀ b, bs = some b → 0 < xs.length → g.st q = .own b none) (hqs : ∀ c, src = some c → 0 < ys.length → g.st qs = .own c none)
    (hwx : ∀ (i : Nat) (x : List PV), xs[i]? = some x → x.length = e) (hwy : ∀ (i : Nat) (x : List PV), ys[i]? = some x → x.length = e)
    (hold : ∀ (i : Nat) (x : List PV) (j : Nat) (p : PV), xs[i]? = some x → x[j]? = some p → ∃ b v, bs = some b ∧ old[i * e + j]? = some v ∧ OW w g.st b (q, i * e + j) p v)
    (hnew : ∀ (i : Nat) (y : List PV) (j : Nat) (p : PV), ys[i]? = some y → y[j]? = some p → ∃ v, news[i * e + j]? = some v ∧
      ((flatP p = true ∧ RO w (fun _ => True) p v) ∨ ∃ c, src = some c ∧ OW w g.st c (qs, i * e + j) p v))
    (hmem : ∀ d, lk mem' d = if d = b2 then .ar e 0 (xs ++ ys) else if bs = some d ∨ src = some d then .gone else lk mem d) :
    Step w g mem w' (g.ap bs src b2 q qs k cap (xs.length * e)) mem' := by
  have hkst : ∀ r, g.st r = .ro → r < w.heap.size → r ≠ k := by
    intro r hr hlt e'
    rcases hk with h | ⟨b, _, h⟩
    · omega
    · rw [e', h] at hr; cases hr
  have hne : ∀ r d l, g.st r = .own d l → (bs ≠ some d ∨ l ≠ none) → r ≠ k := by
    intro r d l hr hd e'
    rcases hk with h | ⟨b, h1, h2⟩
    · have := own_lt hm.good hr; omega
    · rw [e', h2] at hr
      cases hr
      rcases hd with h | h
      · exact h h1
      · exact h rfl
  have hother : ∀ r d l, g.st r = .own d l → r ≠ k → w'.heap[r]? = w.heap[r]? := fun r d l hr h => hG.other r (own_lt hm.good hr) h
  have hb2b : ∀ b, bs = some b → b ≠ b2 := fun b h e' => hbs b h (e' ▸ hb2)
  have hb2c : ∀ c, src = some c → c ≠ b2 := fun c h e' => (hsc c h).1 (e' ▸ hb2)
  have keepst : ∀ r d l, g.st r = .own d l → bs ≠ some d → src ≠ some d → (g.ap bs src b2 q qs k cap (xs.length * e)).st r = .own d l := by
    intro r d l hr h1 h2
    simp only [Gh.ap]
    rw [if_neg (hne r d l hr (.inl h1)), hr]
    simp [h1, h2]
  obtain ⟨cs, t, c1, c2, c3, c4, c5⟩ := hG.blk
  refine Step.gen hm (fun d => d = b2 ∨ bs = some d ∨ src = some d) hG.size hG.os hG.out (fun r hr hs => ?_) (fun r hr => hr) (fun d hd => ?_) (fun d hd => ?_) (fun K d hd => ?_) ⟨fun r hr => ?_, fun r hr => ?_, fun r d l hr => ?_⟩
  · have := hkst r hs hr
    exact ⟨hG.other r hr this, by simp only [Gh.ap]; rw [if_neg this, hs], id⟩
  · simp only [not_or] at hd
    obtain ⟨h1, h2, h3⟩ := hd
    refine ⟨by rw [hmem, if_neg h1, if_neg (by simp [h2, h3])], fun hf => ⟨by simp [Gh.ap, h1], by simp [Gh.ap, h1], fun r l hr => ⟨keepst r d l hr h2 h3, hother r d l hr (hne r d l hr (.inl h2))⟩⟩⟩
  · rw [hmem]
    by_cases h1 : d = b2
    · rw [if_pos h1]
      exact ⟨AB.noConfusion, fun hf => absurd (h1 ▸ hb2) hf⟩
    · have h2 : bs = some d ∨ src = some d := hd.resolve_left h1
      rw [if_neg h1, if_pos h2]
      exact ⟨AB.noConfusion, fun hf => ⟨⟨by simp [Gh.ap, h1], by simp [Gh.ap, h1]⟩, fun _ h => AB.noConfusion h, fun _ _ _ h => AB.noConfusion h⟩⟩
  · rw [hmem]
    by_cases h1 : d = b2
    · rw [if_pos h1]
      subst h1
      refine .inr ⟨k, cs, t, by simp [Gh.ap], by simp [Gh.ap], c1, by simpa [Gh.ap] using c2, by simpa [Gh.ap, hml] using hG.room, by simpa [Gh.ap] using hG.max, c3, fun i x hx => ?_, fun i x j p hx hp => ?_⟩
      · rw [List.getElem?_append] at hx
        split at hx
        · exact hwx i x hx
        · exact hwy _ x hx
      · have hjx : j < x.length := by
          rcases Nat.lt_or_ge j x.length with h | h
          · exact h
          · rw [List.getElem?_eq_none h] at hp; cases hp
        rw [List.getElem?_append] at hx
        split at hx
        · rename_i hi
          obtain ⟨b, v, hb, hv, ho⟩ := hold i x j p hx hp
          refine ⟨v, by rw [c4 _ (mul_lt_of hi (by rw [← hwx i x hx]; exact hjx))]; exact hv, ?_⟩
          have := ho.move (w' := w') (st' := (g.ap bs src d q qs k cap (xs.length * e)).st) (b' := d) (fun l => if l.1 = q then (k, l.2) else l) (fun r l hr => by
            have hrk := hne r b _ hr (.inr (by simp))
            refine ⟨?_, hother r b _ hr hrk, fun j => ?_⟩
            · simp only [Gh.ap]
              rw [if_neg hrk, hr]
              simp [hb]
            · have : r ≠ q := by
                intro e'
                have := hq b hb (by omega)
                rw [← e', hr] at this
                cases this
              simp [this])
          simpa using this
        · rename_i hi
          have hi : xs.length ≤ i := Nat.le_of_not_lt hi
          obtain ⟨v, hv, hs⟩ := hnew _ x j p hx hp
          have hidx : xs.length * e + ((i - xs.length) * e + j) = i * e + j := by
            rw [← Nat.add_assoc, ← Nat.add_mul]; congr 2; omega
          refine ⟨v, by rw [← hidx]; exact c5 _ v hv, ?_⟩
          rcases hs with ⟨hf, hr⟩ | ⟨c, hc, ho⟩
          · exact hr.flat hf
          · have hyl : 0 < ys.length := by
              rcases Nat.eq_zero_or_pos ys.length with h | h
              · rw [List.eq_nil_of_length_eq_zero h] at hx; cases hx
              · exact h
            obtain ⟨_, hcb⟩ := hsc c hc
            have := ho.move (w' := w') (st' := (g.ap bs src d q qs k cap (xs.length * e)).st) (b' := d) (fun l => if l.1 = qs then (k, xs.length * e + l.2) else l) (fun r l hr => by
              have hrk := hne r c _ hr (.inl hcb)
              refine ⟨?_, hother r c _ hr hrk, fun j => ?_⟩
              · simp only [Gh.ap]
                rw [if_neg hrk, hr]
                simp [hc, hcb]
              · have : r ≠ qs := by
                  intro e'
                  have := hqs c hc hyl
                  rw [← e', hr] at this
                  cases this
                simp [this])
            simpa [hidx] using this
    · have h2 : bs = some d ∨ src = some d := hd.resolve_left h1
      rw [if_neg h1, if_pos h2]; trivial
  · obtain ⟨h1, h2⟩ := hm.good.ok r hr
    exact ⟨by simp only [Gh.ap]; rw [if_neg (hkst r h1 h2), h1], Nat.lt_of_lt_of_le h2 hG.size⟩
  · have hks : k < w'.heap.size := by
      rcases Nat.lt_or_ge k w'.heap.size with h | h
      · exact h
      · rw [Array.getElem?_eq_none h] at c1; cases c1
    simp only [Gh.ap]
    rw [if_neg (by omega), hm.good.new r (Nat.le_trans hG.size hr)]
  · rw [hmem]
    by_cases h1 : d = b2
    · rw [if_pos h1]; exact AB.noConfusion
    · rw [if_neg h1]
      by_cases h2 : bs = some d ∨ src = some d
      · rw [if_pos h2]; exact AB.noConfusion
      · rw [if_neg h2]
        simp only [Gh.ap] at hr
        split at hr
        · cases hr; exact absurd rfl h1
        · split at hr
          · cases hr
          · rename_i hst
            split at hr
            · split at hr
              · cases hr
              · cases hr; exact absurd rfl h1
            · split at hr
              · split at hr
                · cases hr
                · cases hr; exact absurd rfl h1
              · cases hr; exact hm.good.nf r d _ hst

end Go.Proofs.Ytfeiaibdnnhlaaa
