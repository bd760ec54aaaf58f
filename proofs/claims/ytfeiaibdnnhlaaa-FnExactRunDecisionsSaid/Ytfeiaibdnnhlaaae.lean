import Derived.Test.Ytfeiaibdnnhlaaad
import Derived.Laws.Tables
/- The abstract interpreter, part 5: the operations that only compute. -/
set_option linter.unusedSectionVars false
set_option linter.unusedVariables false
set_option linter.unusedSimpArgs false
namespace Go.Proofs.Ytfeiaibdnnhlaaa

section
variable {P : Program} {tt : TypeId → Option TI} (hT : TTok P tt) {σ : AS} {w : World} {g : Gh} (hm : Mem w g σ.mem)
include hT

theorem und_struct {t : TypeId} {i : TI} (ht : tt t = some i) {fs : List (Nat × TypeId)} (hu : i.ud = .struct fs) :
    ∃ F, P.underlying t = some (.struct F) ∧ F.toList.map (fun f => (f.offset, f.type)) = fs := by
  obtain ⟨ti, h1, h2, h3, h4, h5, h6⟩ := hT t i ht
  rw [hu] at h5
  obtain ⟨F, hF, hfs, _⟩ := h5
  exact ⟨F, hF, hfs⟩

theorem und_slice {t : TypeId} {i : TI} (ht : tt t = some i) {e : TypeId} (hu : i.ud = .slice e) : P.underlying t = some (.slice e) := by
  obtain ⟨ti, h1, h2, h3, h4, h5, h6⟩ := hT t i ht
  rw [hu] at h5; exact h5

theorem und_string {t : TypeId} {i : TI} (ht : tt t = some i) (hu : i.ud = .string) : P.underlying t = some .string := by
  obtain ⟨ti, h1, h2, h3, h4, h5, h6⟩ := hT t i ht
  rw [hu] at h5; exact h5

theorem size_run {t : TypeId} {i : TI} (ht : tt t = some i) (w : World) : (sizeOf t).run P w = .ok i.size w := by
  obtain ⟨ti, h1, h2, _⟩ := hT t i ht
  simp [sizeOf, typeInfo, h1, h2]

omit hT in
theorem alive_run (hm : Mem w g σ.mem) {a : AV} {v : Value} (ha : RA w g σ.mem a v) (h : alive σ.rd a = true) :
    ∃ ad : Addr, v = .pointer (some ad) ∧ ad.spot = none ∧ ∀ off, RA w g σ.mem (shiftP off a) (.pointer (some (ad.add off))) := by
  cases ha with
  | ref b o v hr h1 =>
    simp only [alive] at h
    split at h
    · rename_i cells hb
      have hb := rd_m hb
      rw [hb] at hr
      obtain ⟨q, hq, hv⟩ := hr
      refine ⟨_, hv, rfl, fun off => .ref _ _ _ ?_ rfl⟩
      rw [hb]
      exact ⟨q, hq, by rw [add_at]⟩
    · cases h
  | el b i o v hr h1 =>
    simp only [alive] at h
    split at h
    · rename_i e n xs hb
      have hb := rd_m hb
      rw [hb] at hr
      obtain ⟨hi, q, hq, hv⟩ := hr
      refine ⟨_, hv, rfl, fun off => .el _ _ _ _ ?_ rfl⟩
      rw [hb]
      exact ⟨hi, q, hq, by rw [add_at, Nat.add_assoc]⟩
    · cases h
  | velN cells o v hr =>
    obtain ⟨q, o', hv, hq, hc⟩ := hr
    exact ⟨_, hv, rfl, fun off => .velN _ _ _ ⟨q, o', by rw [add_at, Nat.add_assoc], hq, hc⟩⟩
  | velS b n cells o v hr h1 =>
    simp only [alive] at h
    obtain ⟨e, xs, hb⟩ := stampIs_eq h
    rw [hb] at hr
    obtain ⟨q, o', hv, hq, hc⟩ := hr.2 rfl
    refine ⟨_, hv, rfl, fun off => .velS _ _ _ _ _ ?_ rfl⟩
    rw [hb]
    exact ⟨Nat.le_refl _, fun _ => ⟨q, o', by rw [add_at, Nat.add_assoc], hq, hc⟩⟩
  | _ => cases h

theorem fieldAddr_run (hm : Mem w g σ.mem) {s : TypeId} {i j : TI} {fs : List (Nat × TypeId)} {f off : Nat} {t : TypeId} (hs : tt s = some i) (hu : i.ud = .struct fs) (hf : fs[f]? = some (off, t)) (ht : tt t = some j) (hj : j.size ≠ 0)
    {a r : AV} {v : Value} (ha : RA w g σ.mem a v) (hr : afieldOff σ.rd off a = some r) :
    ∃ u, (Instr.fieldAt s v f).run P w = .ok u w ∧ RA w g σ.mem r u := by
  obtain ⟨F, hF, hfs⟩ := und_struct hT hs hu
  have hFf : ∃ fl, F[f]? = some fl ∧ fl.offset = off ∧ fl.type = t := by
    rw [← hfs, List.getElem?_map] at hf
    cases h : F.toList[f]? with
    | none => rw [h] at hf; cases hf
    | some fl => rw [h] at hf; cases hf; exact ⟨fl, by simpa using h, rfl, rfl⟩
  obtain ⟨fl, h1, h2, h3⟩ := hFf
  have hsz := size_run hT ht w
  unfold afieldOff at hr
  split at hr
  · rename_i hal
    cases hr
    obtain ⟨ad, hv, _, hR⟩ := alive_run hm ha hal
    exact ⟨_, by rw [hv]; simp [Instr.fieldAt, run_underlying hF, h1, Instr.sureAddr, fieldPlace, h2, h3, hsz, hj], hR off⟩
  · cases hr

omit hT in
theorem alist_run (hm : Mem w g σ.mem) {a : AV} {v : Value} {xs : List (List PV)} (ha : RA w g σ.mem a v) (hl : alist σ.rd a = some xs) :
    ∃ base cap, v = .slice base xs.length cap ∧ xs.length ≤ cap ∧ (xs = [] ∨ ∃ q o e, base = some ⟨q, o, none⟩ ∧ (∀ (i : Nat) (x : List PV), xs[i]? = some x → x.length = e) ∧
      ∀ (i : Nat) (x : List PV) (j : Nat) (p : PV), xs[i]? = some x → x[j]? = some p → ∃ u, w.cell? ⟨q, o + i * e + j, none⟩ = some u ∧ RO w (fun _ => True) p u) := by
  have fin : ∀ {ok : Nat → Prop}, RO w ok (.ls xs) v → ∃ base cap, v = .slice base xs.length cap ∧ xs.length ≤ cap ∧ (xs = [] ∨ ∃ q o e, base = some ⟨q, o, none⟩ ∧ (∀ (i : Nat) (x : List PV), xs[i]? = some x → x.length = e) ∧
      ∀ (i : Nat) (x : List PV) (j : Nat) (p : PV), xs[i]? = some x → x[j]? = some p → ∃ u, w.cell? ⟨q, o + i * e + j, none⟩ = some u ∧ RO w (fun _ => True) p u) := by
    intro ok h
    cases h with
    | nil a c => exact ⟨a, c, rfl, Nat.zero_le _, .inl rfl⟩
    | ls e xs q o c vs hok hw hc hr hn =>
      exact ⟨_, c, rfl, hn, .inr ⟨q, o, e, rfl, hw, fun i x j p a b => ⟨vs i j, hc i x j p a b, (hr i x j p a b).mono (fun _ _ => trivial) (fun _ _ _ _ h => h)⟩⟩⟩
  unfold alist at hl
  split at hl
  · cases hl; cases ha; exact ⟨none, 0, rfl, Nat.le_refl _, .inl rfl⟩
  · cases hl; cases ha with | d _ _ h => exact fin h
  · split at hl
    · rename_i hst
      cases hl
      obtain ⟨e, xs', hb⟩ := stampIs_eq hst
      cases ha with
      | tv _ _ _ _ h h1 => rw [hb] at h; exact fin (h.2 rfl)
    · cases hl
  · rename_i b
    split at hl
    · rename_i e n xs' hb
      cases hl
      have hb := rd_m hb
      cases ha with
      | sl _ _ h h1 =>
        rw [hb] at h
        have hB := hm.rm b
        rw [hb] at hB
        simp only [slOK] at h
        rcases hB with ⟨h1, h2⟩ | ⟨q, cs, t, e1, e2, e3, e4, e5, e6, e7, e8, e9⟩
        · subst h2
          simp only [hdr, h1] at h
          exact ⟨none, 0, h, Nat.le_refl _, .inl rfl⟩
        · simp only [hdr, e1] at h
          refine ⟨_, _, h, e5, .inr ⟨q, 0, e, rfl, e8, fun i x j p hi hj => ?_⟩⟩
          obtain ⟨u, hu, ho⟩ := e9 i x j p hi hj
          exact ⟨u, by rw [cell_of_block e3, Nat.zero_add]; exact hu, ho.ro.mono (fun _ _ => trivial) (fun _ _ _ _ h => h)⟩
    · cases hl
  · cases hl

theorem indexAddr_run (hm : Mem w g σ.mem) {t e : TypeId} {i j : TI} (ht : tt t = some i) (hu : i.ud = .slice e) (he : tt e = some j)
    {a r : AV} {v : Value} {k : IntKind} {n : Int} (ha : RA w g σ.mem a v) (hr : aindexAddr σ.rd j.size a n = some r) :
    ∃ u, (Instr.indexAt t v (.int k n)).run P w = .ok u w ∧ RA w g σ.mem r u := by
  have hun := und_slice hT ht hu
  have hsz := size_run hT he w
  have run : ∀ (q o len cap : Nat), 0 ≤ n → n < len → (Instr.indexAt t (.slice (some ⟨q, o, none⟩) len cap) (.int k n)).run P w = .ok (.pointer (some ⟨q, o + n.toNat * j.size, none⟩)) w := by
    intro q o len cap h0 h1
    simp [Instr.indexAt, asIntOf, run_underlying hun, h0, h1, hsz, add_at]
  have fin : ∀ {ok : Nat → Prop} {xs : List (List PV)} {x : List PV}, RO w ok (.ls xs) v → 0 ≤ n → xs[n.toNat]? = some x → x.length = j.size →
      ∃ q o, (Instr.indexAt t v (.int k n)).run P w = .ok (.pointer (some ⟨q, o, none⟩)) w ∧ Cells w ok x 0 (.pointer (some ⟨q, o, none⟩)) := by
    intro ok xs x h h0 hx hlen
    have hlt : n.toNat < xs.length := by
      rcases Nat.lt_or_ge n.toNat xs.length with h | h
      · exact h
      · rw [List.getElem?_eq_none h] at hx; cases hx
    cases h with
    | nil a c => simp at hlt
    | ls e' xs q o c vs hok hw hc hr hn =>
      have he := hw _ x hx
      have hee : e' = j.size := by omega
      subst hee
      refine ⟨q, o + n.toNat * j.size, run q o xs.length c h0 (by omega), q, o + n.toNat * j.size, rfl, hok, fun m p hp => ⟨vs n.toNat m, hc _ x m p hx hp, hr _ x m p hx hp⟩⟩
  unfold aindexAddr at hr
  split at hr
  · rename_i b
    split at hr
    · rename_i e' m xs hb
      have hb := rd_m hb
      split at hr
      · rename_i hee
        split at hr
        · rename_i hbd
          cases hr
          cases ha with
          | sl _ _ h h1 =>
            rw [hb] at h
            have hB := hm.rm b
            rw [hb] at hB
            simp only [slOK] at h
            rcases hB with ⟨h1, h2⟩ | ⟨q, cs, t', e1, e2, e3, e4, e5, e6, e7, e8, e9⟩
            · subst h2; simp at hbd; omega
            · simp only [hdr, e1] at h
              refine ⟨.pointer (some ⟨q, 0 + n.toNat * j.size, none⟩), by rw [h]; exact run q 0 _ _ hbd.1 hbd.2, .el _ _ _ _ ?_ rfl⟩
              rw [hb]
              exact ⟨by omega, q, e1, by rw [hee]; simp⟩
        · cases hr
      · cases hr
    · cases hr
  · rename_i xs
    split at hr
    · rename_i h0
      split at hr
      · rename_i x hx
        split at hr
        · rename_i hlen
          cases hr
          cases ha with
          | d _ _ h =>
            obtain ⟨q, o, h1, h2⟩ := fin h h0 hx hlen
            exact ⟨_, h1, .velN _ _ _ h2⟩
        · cases hr
      · cases hr
    · cases hr
  · rename_i b m xs
    split at hr
    · rename_i hst
      split at hr
      · rename_i h0
        split at hr
        · rename_i x hx
          split at hr
          · rename_i hlen
            cases hr
            obtain ⟨e', xs', hb⟩ := stampIs_eq hst
            cases ha with
            | tv _ _ _ _ h h1' =>
              rw [hb] at h
              obtain ⟨q, o, h1, h2⟩ := fin (h.2 rfl) h0 hx hlen
              refine ⟨_, h1, .velS _ _ _ _ _ ?_ rfl⟩
              rw [hb]
              exact ⟨Nat.le_refl _, fun _ => h2⟩
          · cases hr
        · cases hr
      · cases hr
    · cases hr
  · cases hr

end
end Go.Proofs.Ytfeiaibdnnhlaaa
