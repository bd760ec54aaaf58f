import Derived.Test.Ytfeiaibdnnhlaaaj
/- The abstract interpreter, part 11: how literals and structs are laid. -/
set_option linter.unusedSectionVars false
set_option linter.unusedVariables false
set_option linter.unusedSimpArgs false
namespace Go.Proofs.Ytfeiaibdnnhlaaa

theorem splice_eq {α : Type} : ∀ (vs l : List α) (off : Nat), off + vs.length ≤ l.length → splice l off vs = l.take off ++ vs ++ l.drop (off + vs.length)
  | [], l, off, h => by simp [splice]
  | v :: vs, l, off, h => by
    simp only [List.length_cons] at h
    simp only [splice]
    rw [splice_eq vs (l.set off v) (off + 1) (by simp; omega)]
    have hlt : off < l.length := by omega
    have h1 : (l.set off v).take (off + 1) = l.take off ++ [v] := by
      rw [List.take_add_one, List.getElem?_set_self hlt, List.take_set]
      rw [List.set_eq_of_length_le (by simp; omega)]
      rfl
    have h2 : (l.set off v).drop (off + 1 + vs.length) = l.drop (off + (v :: vs).length) := by
      rw [List.drop_set_of_lt (by omega)]
      congr 1
      simp only [List.length_cons]; omega
    rw [h1, h2]
    simp

theorem splice_length {α : Type} : ∀ (vs l : List α) (off : Nat), (splice l off vs).length = l.length
  | [], l, off => rfl
  | v :: vs, l, off => by simp only [splice]; rw [splice_length vs]; simp

theorem AllRA.splice {w : World} {g : Gh} {mem : List AB} : ∀ {as : List AV} {vs : List Value} {xs : List AV} {us : List Value} (off : Nat), AllRA w g mem xs us → AllRA w g mem as vs → AllRA w g mem (splice xs off as) (splice us off vs)
  | [], vs, xs, us, off, h, h' => by
    have : vs = [] := List.eq_nil_of_length_eq_zero (by simpa using h'.1.symm)
    subst this; exact h
  | a :: as, [], xs, us, off, h, h' => by have := h'.1; simp at this
  | a :: as, v :: vs, xs, us, off, h, h' => by
    simp only [Go.Proofs.Ytfeiaibdnnhlaaa.splice]
    refine AllRA.splice (off + 1) ⟨by simp [h.1], fun i c u hc hu => ?_⟩ ⟨by have := h'.1; simpa using this, fun i c u hc hu => h'.2 (i + 1) c u (by simpa using hc) (by simpa using hu)⟩
    rw [List.getElem?_set] at hc hu
    by_cases ho : off = i
    · rw [if_pos ho] at hc hu
      split at hc
      · rename_i hlt
        rw [if_pos (by rw [← h.1]; exact hlt)] at hu
        cases hc; cases hu
        exact h'.2 0 a v rfl rfl
      · cases hc
    · rw [if_neg ho] at hc hu
      exact h.2 i c u hc hu

theorem foldl_splice (off : Nat) : ∀ (vs : List Value) (k : Nat) (cells : Array Value), ((vs.zipIdx k).foldl (fun cs (x : Value × Nat) => cs.setIfInBounds (off + x.2) x.1) cells).toList = splice cells.toList (off + k) vs
  | [], k, cells => rfl
  | v :: vs, k, cells => by
    simp only [List.zipIdx_cons, List.foldl_cons, splice]
    rw [foldl_splice off vs (k + 1)]
    simp [Nat.add_assoc]

theorem zipFold (off : Nat) (v cells : Array Value) : (v.zipIdx.foldl (fun cs (x : Value × Nat) => cs.setIfInBounds (off + x.2) x.1) cells).toList = splice cells.toList off v.toList := by
  rw [← Array.foldl_toList]
  have := foldl_splice off v.toList 0 cells
  simpa using this

/-- The parts of a literal, laid one behind the other. -/
def spliceAll (place : Nat → Nat) : List Value → List (Nat × Value) → List Value
  | l, [] => l
  | l, (i, v) :: r => spliceAll place (splice l (place i) v.cells.toList) r

theorem fill_run (place : Nat → Option (Nat × Nat)) (pl : Nat → Nat) : ∀ (parts : List (Nat × Value)) (cells : Array Value),
    (∀ x ∈ parts, ∃ size, place x.1 = some (pl x.1, size) ∧ x.2.cells.size = size ∧ pl x.1 + size ≤ cells.size) →
    ∃ cells', Instr.fill place cells parts = some cells' ∧ cells'.toList = spliceAll pl cells.toList parts
  | [], cells, _ => ⟨cells, rfl, rfl⟩
  | (i, v) :: parts, cells, h => by
    obtain ⟨size, h1, h2, h3⟩ := h (i, v) (by simp)
    have hz := zipFold (pl i) v.cells cells
    have hsz : (v.cells.zipIdx.foldl (fun cs (x : Value × Nat) => cs.setIfInBounds (pl i + x.2) x.1) cells).size = cells.size := by
      have := congrArg List.length hz
      rw [splice_length] at this
      simpa using this
    obtain ⟨cells', h4, h5⟩ := fill_run place pl parts (v.cells.zipIdx.foldl (fun cs (x : Value × Nat) => cs.setIfInBounds (pl i + x.2) x.1) cells) (fun x hx => by
      obtain ⟨s, a, b, c⟩ := h x (by simp [hx])
      exact ⟨s, a, b, by rw [hsz]; exact c⟩)
    refine ⟨cells', ?_, ?_⟩
    · simp only [Instr.fill, h1]
      rw [if_neg (by simp at h2 h3 ⊢; omega)]
      exact h4
    · rw [h5, hz]; rfl

theorem spliceAll_rows (size : Nat) : ∀ (parts : List (Nat × Value)) (k : Nat) (l : List Value), (∀ (i : Nat) (x : Nat × Value), parts[i]? = some x → x.1 = k + i ∧ x.2.cells.size = size) → (k + parts.length) * size = l.length →
    spliceAll (fun i => i * size) l parts = l.take (k * size) ++ (parts.flatMap fun x => x.2.cells.toList)
  | [], k, l, _, h => by simp only [spliceAll, List.flatMap_nil, List.append_nil]; rw [List.take_of_length_le (by simp at h; omega)]
  | (i, v) :: parts, k, l, h, hl => by
    obtain ⟨h1, h2⟩ := h 0 _ rfl
    simp only [Nat.add_zero] at h1
    simp only at h1 h2
    subst h1
    simp only [List.length_cons] at hl
    have hle : (i + 1) * size ≤ l.length := by rw [← hl]; exact Nat.mul_le_mul_right _ (by omega)
    rw [Nat.succ_mul] at hle
    have hv : v.cells.toList.length = size := by simpa using h2
    simp only [spliceAll]
    rw [spliceAll_rows size parts (i + 1) _ (fun j x hx => by obtain ⟨a, b⟩ := h (j + 1) x (by simpa using hx); exact ⟨by omega, b⟩) (by rw [splice_length, ← hl]; congr 1; omega)]
    rw [splice_eq _ _ _ (by omega), hv]
    rw [List.take_append_of_le_length (by simp [hv]; rw [Nat.succ_mul]; omega)]
    rw [List.take_of_length_le (by simp [hv]; rw [Nat.succ_mul]; omega)]
    simp

section
variable {P : Program} {tt : TypeId → Option TI} (hT : TTok P tt) {σ : AS} {w : World} {g : Gh}
include hT

omit hT in
theorem aparts_sound {a : Act} (hr : Rel σ w g a) : ∀ {parts : List (Nat × Operand)} {ps : List (Nat × AV)}, aparts σ.rd parts = some ps →
    ps.length = parts.length ∧ ∀ (i : Nat) (x : Nat × Operand), parts[i]? = some x → ∃ y, ps[i]? = some y ∧ y.1 = x.1 ∧ RA w g σ.mem y.2 (a.eval x.2)
  | [], ps, h => by cases h; exact ⟨rfl, fun i x h => by simp at h⟩
  | (i, x) :: parts, ps, h => by
    simp only [aparts] at h
    split at h
    · cases h
    · rename_i av hav
      split at h
      · cases h
      · rename_i r hr'
        cases h
        obtain ⟨h1, h2⟩ := aparts_sound hr hr'
        refine ⟨by simp [h1], fun j y hy => ?_⟩
        cases j with
        | zero => simp at hy; subst hy; exact ⟨_, rfl, rfl, aeval_sound hr hav⟩
        | succ j => simp at hy; simpa using h2 j y hy

omit hT in
theorem zAV_RA {mem : List AB} (p : PV) : RA w g mem (zAV p) (zval p) ∧ (zval p).oneCell' = true := by
  cases p with
  | int k n => exact ⟨.d _ _ (.int _ _), rfl⟩
  | bool b => exact ⟨.d _ _ (.bool _), rfl⟩
  | str s => exact ⟨.d _ _ (.str _), rfl⟩
  | ls xs => exact ⟨.nil, rfl⟩

omit hT in
theorem zeros_RA {mem : List AB} (z : List PV) : AllRA w g mem (z.map zAV) (z.map zval) := by
  refine ⟨by simp, fun i c u hc hu => ?_⟩
  rw [List.getElem?_map] at hc hu
  cases h : z[i]? with
  | none => rw [h] at hc; cases hc
  | some p => rw [h] at hc hu; cases hc; cases hu; exact (zAV_RA p).1

theorem build_run {t : TypeId} {i : TI} (ht : tt t = some i) {fs : List (Nat × TypeId)} (hu : i.ud = .struct fs) {z : List PV} (hz : i.zero = some z) :
    ∀ (ps : List (Nat × AV)) (vs : List (Nat × Value)), ps.length = vs.length → (∀ (k : Nat) (x : Nat × AV) (y : Nat × Value), ps[k]? = some x → vs[k]? = some y → y.1 = x.1 ∧ RA w g σ.mem x.2 y.2) →
    ∀ {cs : List AV}, abuild tt (z.map zAV) fs ps = some cs → ∃ v, (Instr.build t vs.toArray).run P w = .ok v w ∧ RA w g σ.mem (.agg cs) v := by
  intro ps vs hlen hps cs hcs
  obtain ⟨ti, h1, h2, h3, h4, h5, h6⟩ := hT t i ht
  rw [hu] at h5
  obtain ⟨F, hF, hfs, hall⟩ := h5
  obtain ⟨zl, zok, zv, z1, z2⟩ := h4 z hz
  have hpl : ∃ places, F.toList.mapM (fun f => (P.info? f.type).map fun i => (f.offset, i.size)) = some places ∧ ∀ (k off : Nat) (t' : TypeId) (j : TI), fs[k]? = some (off, t') → tt t' = some j → places[k]? = some (off, j.size) := by
    rw [← hfs]
    clear hF hfs hcs
    generalize F.toList = L at hall ⊢
    induction L with
    | nil => exact ⟨[], by simp, fun k off t' j h => by simp at h⟩
    | cons f L ih =>
      obtain ⟨places, a1, a2⟩ := ih (fun f hf => hall f (by simp [hf]))
      have := hall f (by simp)
      cases hi : P.info? f.type with
      | none => rw [hi] at this; cases this
      | some ti' =>
        refine ⟨(f.offset, ti'.size) :: places, by simp [List.mapM_cons, hi, a1], fun k off t' j hk hj => ?_⟩
        cases k with
        | zero =>
          simp at hk
          obtain ⟨rfl, rfl⟩ := hk
          obtain ⟨ti'', b1, b2, _⟩ := hT _ j hj
          rw [hi] at b1; cases b1
          simp [b2]
        | succ k => simp at hk; simpa using a2 k off t' j (by simpa using hk) hj
  obtain ⟨places, hp1, hp2⟩ := hpl
  have main : ∀ (ps : List (Nat × AV)) (vs : List (Nat × Value)) (cs0 : List AV) (cells : Array Value) (cs : List AV), ps.length = vs.length → (∀ (k : Nat) (x : Nat × AV) (y : Nat × Value), ps[k]? = some x → vs[k]? = some y → y.1 = x.1 ∧ RA w g σ.mem x.2 y.2) →
      AllRA w g σ.mem cs0 cells.toList → (∀ v ∈ cells.toList, v.oneCell' = true) → abuild tt cs0 fs ps = some cs →
      ∃ cells', Instr.fill (places.toArray[·]?) cells vs = some cells' ∧ AllRA w g σ.mem cs cells'.toList ∧ ∀ v ∈ cells'.toList, v.oneCell' = true := by
    intro ps
    induction ps with
    | nil =>
      intro vs cs0 cells cs hl _ hA h1 h
      have : vs = [] := List.eq_nil_of_length_eq_zero (by simpa using hl.symm)
      subst this
      cases h
      exact ⟨cells, rfl, hA, h1⟩
    | cons x ps ih =>
      intro vs cs0 cells cs hl hps hA h1 h
      cases vs with
      | nil => simp at hl
      | cons y vs =>
        obtain ⟨k, av⟩ := x
        obtain ⟨k', v⟩ := y
        obtain ⟨hk, hv⟩ := hps 0 _ _ rfl rfl
        simp only at hk hv
        subst hk
        simp only [abuild] at h
        split at h
        · cases h
        · rename_i off t' hf
          split at h
          · cases h
          · rename_i j hj
            split at h
            · rename_i hc
              simp only [Bool.and_eq_true, decide_eq_true_eq] at hc
              obtain ⟨⟨c1, c2⟩, c3⟩ := hc
              obtain ⟨d1, d2, d3⟩ := acells_sound hv c3
              have hz := zipFold off v.cells cells
              have hplace := hp2 k' off t' j hf hj
              obtain ⟨cells', e1, e2, e3⟩ := ih vs (splice cs0 off (acells av)) (v.cells.zipIdx.foldl (fun cs (x : Value × Nat) => cs.setIfInBounds (off + x.2) x.1) cells) cs (by simpa using hl)
                (fun m x y hx hy => hps (m + 1) x y (by simpa using hx) (by simpa using hy)) (by rw [hz]; exact hA.splice off ⟨by simpa using d1, fun i c u hc hu => d3 i c u hc (by simpa using hu)⟩)
                (fun u hu => by
                  rw [hz] at hu
                  have : ∀ (vs l : List Value) (o : Nat), (∀ u ∈ vs, u.oneCell' = true) → (∀ u ∈ l, u.oneCell' = true) → ∀ u ∈ splice l o vs, u.oneCell' = true := by
                    intro vs
                    induction vs with
                    | nil => intro l o _ hl u hu; exact hl u hu
                    | cons v vs ih =>
                      intro l o hvs hl u hu
                      refine ih (l.set o v) (o + 1) (fun u hu => hvs u (by simp [hu])) (fun u hu => ?_) u hu
                      rcases List.mem_or_eq_of_mem_set hu with h | h
                      · exact hl u h
                      · rw [h]; exact hvs v (by simp)
                  exact this _ _ _ d2 h1 u hu) h
              refine ⟨cells', ?_, e2, e3⟩
              have hA1 := hA.1
              simp at hA1
              have hplace' : places.toArray[k']? = some (off, j.size) := by simpa using hplace
              simp only [Instr.fill, hplace']
              rw [if_neg (by simp; omega)]
              exact e1
            · cases h
  have hone : ∀ v ∈ zv.cells.toList, v.oneCell' = true := by
    intro v hv
    rw [z2, List.mem_map] at hv
    obtain ⟨p, _, rfl⟩ := hv
    exact (zAV_RA (w := w) (g := g) (mem := []) p).2
  obtain ⟨cells', e1, e2, e3⟩ := main ps vs _ zv.cells cs hlen hps (by rw [z2]; exact zeros_RA z) hone hcs
  refine ⟨.agg cells', run_build w t vs.toArray cells' ?_, .agg _ _ (by simpa using e2.1) e3 (fun i c u hc hu => e2.2 i c u hc (by simpa using hu))⟩
  simp only [Program.built, h1, hF, z1, hp1]
  exact e1

end
end Go.Proofs.Ytfeiaibdnnhlaaa
