import Derived.Test.Ytfeiaibdnnhlaaac5
/- The runner, part 6: nil slices among the results become empty blocks. -/
set_option linter.unusedVariables false
set_option linter.unusedSimpArgs false
namespace Go.Proofs.Ytfeiaibdnnhlaaa

mutual
def wdA (e : Nat) : AV → List AB → AV × List AB
  | .nil, m => (.sl m.length, m ++ [.ar e 0 []])
  | .agg cs, m => (.agg (wdAs e cs m).1, (wdAs e cs m).2)
  | .tup cs, m => (.tup (wdAs e cs m).1, (wdAs e cs m).2)
  | a, m => (a, m)
def wdAs (e : Nat) : List AV → List AB → List AV × List AB
  | [], m => ([], m)
  | a :: l, m => ((wdA e a m).1 :: (wdAs e l (wdA e a m).2).1, (wdAs e l (wdA e a m).2).2)
end

/-- More abstract blocks, the same machine. -/
structure More (w : World) (g : Gh) (m : List AB) (g' : Gh) (m' : List AB) : Prop where
  mem : Mem w g' m'
  keep : Keep w g m w g' m'
  st : g'.st = g.st
  ok : g'.ok = g.ok
  loc : ∀ b, b < m.length → g'.loc b = g.loc b ∧ g'.cap b = g.cap b
  len : m.length ≤ m'.length

theorem More.refl {w : World} {g : Gh} {m : List AB} (h : Mem w g m) : More w g m g m := ⟨h, Keep.refl w g m, rfl, rfl, fun _ _ => ⟨rfl, rfl⟩, Nat.le_refl _⟩

theorem lk_lt {m : List AB} {b : Nat} (h : lk m b ≠ .fut) : b < m.length := Nat.lt_of_not_le fun h' => h (lk_ge h')

theorem More.trans {w : World} {g g1 g2 : Gh} {m m1 m2 : List AB} (h : More w g m g1 m1) (h' : More w g1 m1 g2 m2) : More w g m g2 m2 where
  mem := h'.mem
  keep := {
    ok := fun q hq => ⟨by rw [h'.ok, h.ok]; exact hq, fun _ _ h => h⟩
    nofut := fun b hb => h'.keep.nofut b (h.keep.nofut b hb)
    sv := fun b cells hb hl => by
      obtain ⟨⟨c1, h1⟩, _⟩ := h'.keep.sv b cells (h.keep.nofut b hb) hl
      obtain ⟨h2, _⟩ := h.keep.sv b c1 hb h1
      exact ⟨h2, ((h'.loc b (lk_lt (h.keep.nofut b hb))).1.trans (h.loc b (lk_lt hb)).1)⟩
    ar := fun b e n xs hb hl => by
      obtain ⟨n1, xs1, h1, h2, h3, _, _, _⟩ := h'.keep.ar b e n xs (h.keep.nofut b hb) hl
      obtain ⟨n0, xs0, h4, h5, h6, _, _, _⟩ := h.keep.ar b e n1 xs1 hb h1
      exact ⟨n0, xs0, h4, h5.trans h2, Nat.le_trans h6 h3, ((h'.loc b (lk_lt (h.keep.nofut b hb))).1.trans (h.loc b (lk_lt hb)).1), ((h'.loc b (lk_lt (h.keep.nofut b hb))).2.trans (h.loc b (lk_lt hb)).2), fun _ q l hq => ⟨by rw [h'.st, h.st]; exact hq, fun _ _ h => h⟩⟩ }
  st := h'.st.trans h.st
  ok := h'.ok.trans h.ok
  loc := fun b hb => ⟨(h'.loc b (Nat.lt_of_lt_of_le hb h.len)).1.trans (h.loc b hb).1, (h'.loc b (Nat.lt_of_lt_of_le hb h.len)).2.trans (h.loc b hb).2⟩
  len := Nat.le_trans h.len h'.len

theorem More.wid {w : World} {g : Gh} {m : List AB} (h : Mem w g m) (e : Nat) : More w g m (g.wid m.length) (m ++ [.ar e 0 []]) where
  mem := h.wid e
  keep := Keep.wid w g m e
  st := rfl
  ok := rfl
  loc := fun b hb => by
    have hlt : b ≠ m.length := by omega
    exact ⟨by simp only [Gh.wid, if_neg hlt], rfl⟩
  len := by simp

theorem wdAs_len (e : Nat) : ∀ (cs : List AV) (m : List AB), (wdAs e cs m).1.length = cs.length
  | [], m => rfl
  | a :: l, m => by simp only [wdAs, List.length_cons, wdAs_len e l]

mutual
theorem wdA_ok {w : World} (e : Nat) : ∀ (a : AV) {g : Gh} {m : List AB} {v : Value}, Mem w g m → RA w g m a v → ∃ g', More w g m g' (wdA e a m).2 ∧ RA w g' (wdA e a m).2 (wdA e a m).1 v
  | .nil, g, m, v, hm, h => by
    refine ⟨_, More.wid hm e, ?_⟩
    cases h
    refine .sl _ _ ?_ rfl
    show slOK _ _ _ (lk (m ++ [.ar e 0 []]) m.length)
    rw [lk_snoc, if_pos rfl]
    simp only [slOK, hdr, Gh.wid, if_true, List.length_nil]
  | .agg cs, g, m, v, hm, h => by
    cases h with
    | agg _ vs hl h1 h0 =>
      obtain ⟨g', hM, hA⟩ := wdAs_ok e cs (vs := vs.toList) hm (by simpa using hl) (fun i c u hc hu => h0 i c u hc (by simpa using hu))
      exact ⟨g', hM, .agg _ _ (by simp only [wdAs_len]; exact hl) h1 (fun i c u hc hu => hA i c u hc (by simpa using hu))⟩
  | .tup cs, g, m, v, hm, h => by
    cases h with
    | tup _ vs hl h0 =>
      obtain ⟨g', hM, hA⟩ := wdAs_ok e cs (vs := vs.toList) hm (by simpa using hl) (fun i c u hc hu => h0 i c u hc (by simpa using hu))
      exact ⟨g', hM, .tup _ _ (by simp only [wdAs_len]; exact hl) (fun i c u hc hu => hA i c u hc (by simpa using hu))⟩
  | .undef, g, m, v, hm, h => ⟨g, More.refl hm, h⟩
  | .non, g, m, v, hm, h => ⟨g, More.refl hm, h⟩
  | .d p, g, m, v, hm, h => ⟨g, More.refl hm, h⟩
  | .tv .., g, m, v, hm, h => ⟨g, More.refl hm, h⟩
  | .sl .., g, m, v, hm, h => ⟨g, More.refl hm, h⟩
  | .ref .., g, m, v, hm, h => ⟨g, More.refl hm, h⟩
  | .el .., g, m, v, hm, h => ⟨g, More.refl hm, h⟩
  | .vel .., g, m, v, hm, h => ⟨g, More.refl hm, h⟩
  | .fn .., g, m, v, hm, h => ⟨g, More.refl hm, h⟩
theorem wdAs_ok {w : World} (e : Nat) : ∀ (cs : List AV) {vs : List Value} {g : Gh} {m : List AB}, Mem w g m → cs.length = vs.length → (∀ (i : Nat) (c : AV) (v : Value), cs[i]? = some c → vs[i]? = some v → RA w g m c v) →
    ∃ g', More w g m g' (wdAs e cs m).2 ∧ ∀ (i : Nat) (c : AV) (v : Value), (wdAs e cs m).1[i]? = some c → vs[i]? = some v → RA w g' (wdAs e cs m).2 c v
  | [], vs, g, m, hm, hl, h => ⟨g, More.refl hm, fun i c v hc _ => by simp [wdAs] at hc⟩
  | a :: l, [], g, m, hm, hl, h => by simp at hl
  | a :: l, u :: vs, g, m, hm, hl, h => by
    obtain ⟨g1, M1, h1⟩ := wdA_ok e a hm (h 0 a u rfl rfl)
    obtain ⟨g2, M2, h2⟩ := wdAs_ok e l (vs := vs) M1.mem (by simpa using hl) (fun i c v hc hv => (h (i + 1) c v (by simpa using hc) (by simpa using hv)).keep M1.keep)
    refine ⟨g2, M1.trans M2, fun i c v hc hv => ?_⟩
    cases i with
    | zero =>
      simp [wdAs] at hc hv
      subst hc; subst hv
      exact h1.keep M2.keep
    | succ i =>
      simp [wdAs] at hc hv
      exact h2 i c v hc hv
end

theorem Spec.wd {P : Program} {f : FuncId} {args : List AV} {mem : List AB} {res : AV} {mem1 : List AB} (e : Nat) (h : Spec P f args mem res mem1) (hl : mem.length ≤ mem1.length) : Spec P f args mem (wdA e res mem1).1 (wdA e res mem1).2 := by
  refine ⟨h.1, fun w g vs hm hA => (h.2 w g vs hm hA).mono ?_⟩
  rintro ed w' ⟨v, g', h1, h2, h3, h4⟩
  obtain ⟨g2, M, hR⟩ := wdA_ok e res h2 h3
  refine ⟨v, g2, h1, M.mem, hR, h4.size, fun q hq hs => ?_, fun b hb => ?_, h4.os, h4.out⟩
  · obtain ⟨a1, a2, a3⟩ := h4.ro q hq hs
    exact ⟨a1, by rw [M.st]; exact a2, by rw [M.ok]; exact a3⟩
  · obtain ⟨a1, a2⟩ := h4.loc b hb
    obtain ⟨b1, b2⟩ := M.loc b (Nat.lt_of_lt_of_le (lk_lt hb) hl)
    exact ⟨b1.trans a1, b2.trans a2⟩

end Go.Proofs.Ytfeiaibdnnhlaaa
