import Derived.Test.Ytfeiaibdnnhlaaac2
/- The runner, part 2b: stamps of blocks begin anew. -/
set_option linter.unusedVariables false
set_option linter.unusedSimpArgs false
namespace Go.Proofs.Ytfeiaibdnnhlaaa

mutual
/-- Views that are good get the stamp 0. -/
def rsAV (m : List AB) : AV → AV
  | .tv b n xs => match lk m b with
    | .ar _ n' _ => match Nat.beq n n' with
      | true => .tv b 0 xs
      | false => .undef
    | _ => .undef
  | .vel (some (b, n)) cells o => match lk m b with
    | .ar _ n' _ => match Nat.beq n n' with
      | true => .vel (some (b, 0)) cells o
      | false => .undef
    | _ => .undef
  | .agg cs => .agg (rsAVs m cs)
  | .tup cs => .tup (rsAVs m cs)
  | .fn f cs => .fn f (rsAVs m cs)
  | a => a
def rsAVs (m : List AB) : List AV → List AV
  | [] => []
  | a :: l => rsAV m a :: rsAVs m l
end

def rsAB (m : List AB) : AB → AB
  | .sv cells => .sv (rsAVs m cells)
  | .ar e _ xs => .ar e 0 xs
  | x => x

def rsL (m : List AB) : TL → TL
  | [] => []
  | (t, a) :: l => (t, rsAV m a) :: rsL m l

def rsM (m : List AB) : List AB → List AB
  | [] => []
  | x :: l => rsAB m x :: rsM m l

theorem rsAVs_get {m : List AB} : ∀ (cs : List AV), (rsAVs m cs).length = cs.length ∧ ∀ (i : Nat), (rsAVs m cs)[i]? = (cs[i]?).map (rsAV m)
  | [] => ⟨rfl, fun i => by simp [rsAVs]⟩
  | a :: cs => by
    obtain ⟨h1, h2⟩ := rsAVs_get (m := m) cs
    refine ⟨by simp [rsAVs, h1], fun i => ?_⟩
    cases i with
    | zero => simp [rsAVs]
    | succ i => simp [rsAVs, h2]

theorem rsM_get {m : List AB} : ∀ (l : List AB) (i : Nat), (rsM m l)[i]? = (l[i]?).map (rsAB m)
  | [], i => by simp [rsM]
  | a :: l, i => by
    cases i with
    | zero => simp [rsM]
    | succ i => simp [rsM, rsM_get l]

theorem lk_rsM {m l : List AB} {b : Nat} : lk (rsM m l) b = rsAB m (lk l b) := by
  simp only [lk, List.getD, rsM_get]
  cases l[b]? <;> rfl

theorem RA.rs {w : World} {g : Gh} {mem : List AB} {a : AV} {v : Value} (h : RA w g mem a v) : RA w g (rsM mem mem) (rsAV mem a) v := by
  induction h with
  | undef v => exact .undef v
  | non => exact .non
  | nil => exact .nil
  | d p v h => exact .d p v h
  | tv b n xs v h h1 =>
    simp only [rsAV]
    split
    · rename_i e n' xs' hb
      split
      · rename_i hn
        have hn := Nat.eq_of_beq_eq_true hn
        subst hn
        refine .tv _ _ _ _ ?_ h1
        rw [hb] at h
        rw [lk_rsM, hb]
        exact ⟨Nat.le_refl _, fun _ => h.2 rfl⟩
      · exact .undef v
    · exact .undef v
  | sl b v h h1 =>
    simp only [rsAV]
    refine .sl _ _ ?_ h1
    rw [lk_rsM]
    cases hb : lk mem b with
    | fut => rw [hb] at h; exact h
    | gone => trivial
    | sv cells => rw [hb] at h; exact h
    | ar e n xs => rw [hb] at h; exact h
  | ref b off v h h1 =>
    simp only [rsAV]
    refine .ref _ _ _ ?_ h1
    rw [lk_rsM]
    cases hb : lk mem b with
    | fut => rw [hb] at h; exact h
    | gone => trivial
    | sv cells => rw [hb] at h; exact h
    | ar e n xs => rw [hb] at h; exact h
  | el b i off v h h1 =>
    simp only [rsAV]
    refine .el _ _ _ _ ?_ h1
    rw [lk_rsM]
    cases hb : lk mem b with
    | fut => rw [hb] at h; exact h
    | gone => trivial
    | sv cells => rw [hb] at h; exact h
    | ar e n xs => rw [hb] at h; exact h
  | velN cells off v h => exact .velN _ _ _ h
  | velS b n cells off v h h1 =>
    simp only [rsAV]
    split
    · rename_i e n' xs' hb
      split
      · rename_i hn
        have hn := Nat.eq_of_beq_eq_true hn
        subst hn
        refine .velS _ _ _ _ _ ?_ h1
        rw [hb] at h
        rw [lk_rsM, hb]
        exact ⟨Nat.le_refl _, fun _ => h.2 rfl⟩
      · exact .undef v
    · exact .undef v
  | agg cs vs hl h1 h ih =>
    obtain ⟨g1, g2⟩ := rsAVs_get (m := mem) cs
    refine .agg _ _ (by rw [g1]; exact hl) h1 (fun i c v hc hv => ?_)
    rw [g2] at hc
    cases hi : cs[i]? with
    | none => rw [hi] at hc; cases hc
    | some c' => rw [hi] at hc; cases hc; exact ih i c' v hi hv
  | tup cs vs hl h ih =>
    obtain ⟨g1, g2⟩ := rsAVs_get (m := mem) cs
    refine .tup _ _ (by rw [g1]; exact hl) (fun i c v hc hv => ?_)
    rw [g2] at hc
    cases hi : cs[i]? with
    | none => rw [hi] at hc; cases hc
    | some c' => rw [hi] at hc; cases hc; exact ih i c' v hi hv
  | fn f cs vs hl h ih =>
    obtain ⟨g1, g2⟩ := rsAVs_get (m := mem) cs
    refine .fn f _ _ (by rw [g1]; exact hl) (fun i c v hc hv => ?_)
    rw [g2] at hc
    cases hi : cs[i]? with
    | none => rw [hi] at hc; cases hc
    | some c' => rw [hi] at hc; cases hc; exact ih i c' v hi hv

theorem rsAB_fut {m : List AB} {x : AB} : rsAB m x = .fut ↔ x = .fut := by cases x <;> simp [rsAB]

theorem Mem.rs {w : World} {g : Gh} {mem : List AB} (hm : Mem w g mem) : Mem w g (rsM mem mem) := by
  refine ⟨⟨hm.good.ok, hm.good.new, fun q b l h => by rw [lk_rsM]; exact fun e => hm.good.nf q b l h (rsAB_fut.1 e)⟩, fun b => ?_⟩
  have hB := hm.rm b
  rw [lk_rsM]
  cases hx : lk mem b with
  | fut => trivial
  | gone => trivial
  | sv cells =>
    rw [hx] at hB
    obtain ⟨q, cs, t, a1, a2, a3, a4, a5, a6⟩ := hB
    obtain ⟨g1, g2⟩ := rsAVs_get (m := mem) cells
    refine ⟨q, cs, t, a1, a2, a3, by rw [g1]; exact a4, a5, fun j c v hj hv => ?_⟩
    rw [g2] at hj
    cases hc : cells[j]? with
    | none => rw [hc] at hj; cases hj
    | some c' => rw [hc] at hj; cases hj; exact (a6 j c' v hc hv).rs
  | ar e n xs => rw [hx] at hB; exact hB

theorem Spec.rs {P : Program} {f : FuncId} {args : List AV} {mem : List AB} {res : AV} {mem1 : List AB} (h : Spec P f (rsAVs mem args) (rsM mem mem) res mem1) : Spec P f args mem res mem1 := by
  refine ⟨h.1, fun w g vs hm hA => ?_⟩
  obtain ⟨g1, g2⟩ := rsAVs_get (m := mem) args
  refine (h.2 w g vs hm.rs ⟨by rw [g1]; exact hA.1, fun i c u hc hu => ?_⟩).mono ?_
  · rw [g2] at hc
    cases hi : args[i]? with
    | none => rw [hi] at hc; cases hc
    | some c' => rw [hi] at hc; cases hc; exact (hA.2 i c' u hi hu).rs
  · rintro e w' ⟨v, g', h1, h2, h3, h4⟩
    refine ⟨v, g', h1, h2, h3, h4.size, h4.ro, fun b hb => h4.loc b ?_, h4.os, h4.out⟩
    rw [lk_rsM]
    exact fun e => hb (rsAB_fut.1 e)

end Go.Proofs.Ytfeiaibdnnhlaaa
