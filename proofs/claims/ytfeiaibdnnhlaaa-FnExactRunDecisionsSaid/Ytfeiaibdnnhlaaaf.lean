import Derived.Test.Ytfeiaibdnnhlaaae
/- The abstract interpreter, part 6: slices of slices, arithmetic, comparisons, conversions. -/
set_option linter.unusedSectionVars false
set_option linter.unusedVariables false
set_option linter.unusedSimpArgs false
namespace Go.Proofs.Ytfeiaibdnnhlaaa

section
variable {P : Program} {tt : TypeId → Option TI} (hT : TTok P tt) {σ : AS} {w : World} {g : Gh}
include hT

omit hT in
theorem widthOk_iff {e : Nat} {xs : List (List PV)} : widthOk e xs = true ↔ ∀ (i : Nat) (x : List PV), xs[i]? = some x → x.length = e := by
  simp only [widthOk, List.all_eq_true, beq_iff_eq]
  constructor
  · intro h i x hx; exact h x (List.mem_of_getElem? hx)
  · intro h x hx
    obtain ⟨i, hi⟩ := List.getElem?_of_mem hx
    exact h i x hi

omit hT in
/-- A part of a slice. -/
theorem RO.part {ok : Nat → Prop} {xs : List (List PV)} {base : Option Addr} {len cap l h size : Nat} (hr : RO w ok (.ls xs) (.slice base len cap)) (hw : widthOk size xs = true) (hl : l ≤ h) (hh : h ≤ xs.length) :
    RO w ok (.ls ((xs.drop l).take (h - l))) (.slice (if cap = l then base else base.map (·.add (l * size))) (h - l) (cap - l)) := by
  have hlen : ((xs.drop l).take (h - l)).length = h - l := by simp; omega
  cases hr with
  | nil a c =>
    simp at hh
    have h0 : h - l = 0 := by omega
    simp only [h0, List.take_zero]
    exact .nil _ _
  | ls e xs q o c vs hok hw' hc hr hn =>
    by_cases h0 : h - l = 0
    · simp only [h0, List.take_zero]; exact .nil _ _
    · have hne : ¬ cap = l := by omega
      rw [if_neg hne]
      have hx0 : ∃ x, xs[0]? = some x := ⟨xs[0], List.getElem?_eq_getElem (by omega)⟩
      obtain ⟨x0, hx0⟩ := hx0
      have he : e = size := by rw [← hw' 0 x0 hx0]; exact widthOk_iff.1 hw 0 x0 hx0
      subst he
      have hget : ∀ (i : Nat) (x : List PV), ((xs.drop l).take (h - l))[i]? = some x → xs[l + i]? = some x := by
        intro i x hx
        rw [List.getElem?_take] at hx
        split at hx
        · rwa [List.getElem?_drop] at hx
        · cases hx
      simp only [Option.map_some, add_at]
      have := RO.ls (w := w) (ok := ok) e ((xs.drop l).take (h - l)) q (o + l * e) (cap - l) (fun i j => vs (l + i) j) hok (fun i x hx => hw' _ x (hget i x hx))
        (fun i x j p hx hp => by
          have := hc _ x j p (hget i x hx) hp
          rw [show o + l * e + i * e + j = o + (l + i) * e + j by rw [Nat.add_mul]; omega]
          exact this)
        (fun i x j p hx hp => hr _ x j p (hget i x hx) hp) (by omega)
      rw [hlen] at this
      exact this

omit hT in
theorem bounds_run {isS : Bool} {n cap : Nat} (hn : n ≤ cap) {lo hi : Option Value} {l h : Option Int} (hl : (lo = none ∧ l = none) ∨ ∃ k i, lo = some (.int k i) ∧ l = some i) (hh : (hi = none ∧ h = none) ∨ ∃ k i, hi = some (.int k i) ∧ h = some i)
    (h1 : 0 ≤ l.getD 0) (h2 : l.getD 0 ≤ h.getD n) (h3 : h.getD n ≤ n) : (Instr.sliceBounds isS n cap lo hi none).run P w = .ok ((l.getD 0).toNat, (h.getD n).toNat, cap) w := by
  have sb : ∀ (k : IntKind) (i : Int) (y : Nat) (c : BoundsCode), 0 ≤ i → i ≤ y → (Instr.sliceBound (.int k i) y c).run P w = .ok i.toNat w := by
    intro k i y c a b
    simp only [Instr.sliceBound, asIntOf, Sem.run_bind, Sem.run_pure, Result.andThen_ok]
    rw [if_pos ⟨a, b⟩]
    rfl
  rcases hl with ⟨rfl, rfl⟩ | ⟨k, i, rfl, rfl⟩ <;> rcases hh with ⟨rfl, rfl⟩ | ⟨k', i', rfl, rfl⟩ <;> simp only [Option.getD_some, Option.getD_none] at h1 h2 h3 ⊢
  · simp [Instr.sliceBounds]
  · have e1 := sb k' i' cap (if isS then .sliceAcap else .sliceAlen) (by omega) (by omega)
    simp [Instr.sliceBounds, e1]
  · have e1 := sb k i n .sliceB (by omega) (by omega)
    simp [Instr.sliceBounds, e1]
  · have e1 := sb k' i' cap (if isS then .sliceAcap else .sliceAlen) (by omega) (by omega)
    have e2 := sb k i i'.toNat .sliceB (by omega) (by omega)
    simp [Instr.sliceBounds, e1, e2]

theorem slice_run (hm : Mem w g σ.mem) {t : TypeId} {i : TI} (ht : tt t = some i) {size : Nat} {a r : AV} {v : Value} {lo hi : Option Value} {l h : Option Int}
    (hk : (i.ud = .string ∧ ∃ s, a = .d (.str s)) ∨ ∃ e j, i.ud = .slice e ∧ tt e = some j ∧ size = j.size ∧ ∀ s, a ≠ .d (.str s))
    (ha : RA w g σ.mem a v) (hl : (lo = none ∧ l = none) ∨ ∃ k i, lo = some (.int k i) ∧ l = some i) (hh : (hi = none ∧ h = none) ∨ ∃ k i, hi = some (.int k i) ∧ h = some i)
    (hr : aslice σ.rd size a l h = some r) : ∃ u, (Instr.sliceAt t v lo hi none).run P w = .ok u w ∧ RA w g σ.mem r u := by
  rcases hk with ⟨hu, s, rfl⟩ | ⟨e, j, hu, he, rfl, hns⟩
  · have hun := und_string hT ht hu
    cases ha with
    | d _ _ h0 => cases h0 with
      | str s =>
        simp only [aslice] at hr
        split at hr
        · rename_i hb
          cases hr
          have := bounds_run (P := P) (w := w) (isS := false) (Nat.le_refl s.size) hl hh hb.1 hb.2.1 hb.2.2
          exact ⟨_, by simp [Instr.sliceAt, Instr.slice, run_underlying hun, this], .d _ _ (.str _)⟩
        · cases hr
  · have hun := und_slice hT ht hu
    have hsz := size_run hT he w
    have run : ∀ (base : Option Addr) (n cap : Nat), n ≤ cap → 0 ≤ l.getD 0 → l.getD 0 ≤ h.getD n → h.getD n ≤ n → (Instr.sliceAt t (.slice base n cap) lo hi none).run P w =
        .ok (.slice (if cap = (l.getD 0).toNat then base else base.map (·.add ((l.getD 0).toNat * j.size))) ((h.getD n).toNat - (l.getD 0).toNat) (cap - (l.getD 0).toNat)) w := by
      intro base n cap hn h1 h2 h3
      have := bounds_run (P := P) (w := w) (isS := true) hn hl hh h1 h2 h3
      simp [Instr.sliceAt, Instr.slice, run_underlying hun, this, hsz]
    have fin : ∀ {ok : Nat → Prop} {xs : List (List PV)}, RO w ok (.ls xs) v → widthOk j.size xs = true → 0 ≤ l.getD 0 → l.getD 0 ≤ h.getD xs.length → h.getD xs.length ≤ xs.length →
        ∃ u, (Instr.sliceAt t v lo hi none).run P w = .ok u w ∧ RO w ok (.ls ((xs.drop (l.getD 0).toNat).take ((h.getD xs.length).toNat - (l.getD 0).toNat))) u ∧ u.oneCell' = true := by
      intro ok xs h0 hw h1 h2 h3
      have hv : ∃ base cap, v = .slice base xs.length cap ∧ xs.length ≤ cap := by
        cases h0 with
        | nil a c => exact ⟨a, c, rfl, Nat.zero_le _⟩
        | ls e' xs q o c vs _ _ _ _ hn => exact ⟨_, c, rfl, hn⟩
      obtain ⟨base, cap, hv, hc⟩ := hv
      subst hv
      exact ⟨_, run base xs.length cap hc h1 h2 h3, h0.part hw (by omega) (by omega), rfl⟩
    unfold aslice at hr
    simp only [] at hr
    split at hr
    · exact absurd rfl (hns _)
    · rename_i xs
      split at hr
      · rename_i hw
        split at hr
        · rename_i hb
          cases hr
          cases ha with
          | d _ _ h0 =>
            obtain ⟨u, h1, h2, _⟩ := fin h0 hw hb.1 hb.2.1 hb.2.2
            exact ⟨u, h1, .d _ _ h2⟩
        · cases hr
      · cases hr
    · rename_i b n xs
      split at hr
      · rename_i hw
        simp only [Bool.and_eq_true] at hw
        split at hr
        · rename_i hb
          cases hr
          obtain ⟨e', xs', hbk⟩ := stampIs_eq hw.1
          cases ha with
          | tv _ _ _ _ h0 h1' =>
            rw [hbk] at h0
            obtain ⟨u, h1, h2, h3⟩ := fin (h0.2 rfl) hw.2 hb.1 hb.2.1 hb.2.2
            exact ⟨u, h1, .tv _ _ _ _ (by rw [hbk]; exact ⟨Nat.le_refl _, fun _ => h2⟩) h3⟩
        · cases hr
      · cases hr
    · split at hr
      · rename_i hb
        cases hr
        cases ha
        simp at hb
        have h0 : l.getD 0 = 0 := by omega
        have h1 : h.getD 0 = 0 := by omega
        have := run none 0 0 (Nat.le_refl _) hb.1 (by simpa using hb.2.1) (by simpa using hb.2.2)
        refine ⟨_, this, .d _ _ ?_⟩
        simp [h0, h1]
        exact .nil _ _
      · cases hr
    · rename_i b
      split at hr
      · rename_i e' n xs hb
        have hb := rd_m hb
        split at hr
        · rename_i hee
          subst hee
          split at hr
          · rename_i hbd
            cases hr
            have hal : alist σ.rd (.sl b) = some xs := by simp [alist, AS.rd, hb, defB]
            cases ha with
            | sl _ _ h0 h1 =>
              have hB := hm.rm b
              rw [hb] at hB h0
              simp only [slOK] at h0
              have hRO : RO w (okB g b) (.ls xs) v ∧ widthOk j.size xs = true := by
                rcases hB with ⟨g1, g2⟩ | ⟨q, cs, t', e1, e2, e3, e4, e5, e6, e7, e8, e9⟩
                · subst g2; simp only [hdr, g1] at h0; rw [h0]; exact ⟨.nil _ _, rfl⟩
                · simp only [hdr, e1] at h0
                  rw [h0]
                  refine ⟨.ls j.size xs q 0 (g.cap b) (fun i k => cs.getD (i * j.size + k) undef) ⟨none, e2⟩ e8 (fun i x k p hi hk => ?_) (fun i x k p hi hk => ?_) e5, widthOk_iff.2 e8⟩
                  · obtain ⟨u, hu, _⟩ := e9 i x k p hi hk
                    rw [cell_of_block e3, Nat.zero_add]
                    simp [Array.getD_eq_getD_getElem?, hu]
                  · obtain ⟨u, hu, ho⟩ := e9 i x k p hi hk
                    have : cs.getD (i * j.size + k) undef = u := by simp [Array.getD_eq_getD_getElem?, hu]
                    rw [this]
                    exact ho.ro
              obtain ⟨u, h1, h2, h3⟩ := fin hRO.1 hRO.2 hbd.1 hbd.2.1 hbd.2.2
              exact ⟨u, h1, .tv _ _ _ _ (by rw [hb]; exact ⟨Nat.le_refl _, fun _ => h2⟩) h3⟩
          · cases hr
        · cases hr
      · cases hr
    · cases hr

end
end Go.Proofs.Ytfeiaibdnnhlaaa
