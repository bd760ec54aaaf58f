import Derived.Test.Ytfeiaibdnnhlaaap3
/- The abstract interpreter, part 17: what is forgotten at a loop's head and at a function's end; code; functions. -/
set_option linter.unusedSectionVars false
set_option linter.unusedVariables false
set_option linter.unusedSimpArgs false
namespace Go.Proofs.Ytfeiaibdnnhlaaa

mutual
def gcAV (K : List Nat) : AV → AV
  | .tv b n xs => if K.contains b then .tv (K.idxOf b) n xs else .undef
  | .sl b => if K.contains b then .sl (K.idxOf b) else .undef
  | .ref b o => if K.contains b then .ref (K.idxOf b) o else .undef
  | .el b i o => if K.contains b then .el (K.idxOf b) i o else .undef
  | .vel (some (b, n)) cells o => if K.contains b then .vel (some (K.idxOf b, n)) cells o else .undef
  | .agg cs => .agg (gcAVs K cs)
  | .tup cs => .tup (gcAVs K cs)
  | .fn f cs => .fn f (gcAVs K cs)
  | a => a
def gcAVs (K : List Nat) : List AV → List AV
  | [] => []
  | a :: l => gcAV K a :: gcAVs K l
end

def gcAB (K : List Nat) : AB → AB
  | .sv cells => .sv (gcAVs K cells)
  | .ar e n xs => .ar e n xs
  | _ => .gone

/-- Temporaries that do not live are forgotten. -/
def gcT (K live : List Nat) : Nat → List AV → List AV
  | _, [] => []
  | i, a :: l => (if live.contains i then gcAV K a else .undef) :: gcT K live (i + 1) l

def gcM (K : List Nat) (mem : List AB) : List Nat → List AB
  | [] => []
  | b :: l => gcAB K (lk mem b) :: gcM K mem l

def AS.gc (σ : AS) (K live : List Nat) : AS := { tmps := gcT K live 0 σ.tmps, mem := gcM K σ.mem K }

def knownAll (mem : List AB) : List Nat → Bool
  | [] => true
  | b :: l => (match lk mem b with | .fut => false | _ => true) && knownAll mem l

def keepsN : Nat → Nat → List Nat → Bool
  | 0, _, _ => true
  | n + 1, i, b :: l => b == i && keepsN n (i + 1) l
  | _ + 1, _, [] => false

def gcOK (n0 : Nat) (K : List Nat) (mem : List AB) : Bool := nodupL K && knownAll mem K && keepsN n0 0 K

theorem keepsN_get : ∀ {n i : Nat} {l : List Nat}, keepsN n i l = true → ∀ k, k < n → l[k]? = some (i + k)
  | 0, i, l, _, k, hk => by omega
  | n + 1, i, [], h, k, hk => by simp [keepsN] at h
  | n + 1, i, b :: l, h, k, hk => by
    simp only [keepsN, Bool.and_eq_true, beq_iff_eq] at h
    cases k with
    | zero => simp [h.1]
    | succ k => simp only [List.getElem?_cons_succ]; rw [keepsN_get h.2 k (by omega)]; congr 1; omega

theorem gcAVs_get {K : List Nat} : ∀ (cs : List AV), (gcAVs K cs).length = cs.length ∧ ∀ (i : Nat), (gcAVs K cs)[i]? = (cs[i]?).map (gcAV K)
  | [] => ⟨rfl, fun i => by simp [gcAVs]⟩
  | a :: cs => by
    obtain ⟨h1, h2⟩ := gcAVs_get (K := K) cs
    refine ⟨by simp [gcAVs, h1], fun i => ?_⟩
    cases i with
    | zero => simp [gcAVs]
    | succ i => simp [gcAVs, h2]

theorem gcT_get {K live : List Nat} : ∀ (l : List AV) (i : Nat), (gcT K live i l).length = l.length ∧ ∀ (j : Nat), (gcT K live i l)[j]? = (l[j]?).map fun a => if live.contains (i + j) then gcAV K a else .undef
  | [], i => ⟨rfl, fun j => by simp [gcT]⟩
  | a :: l, i => by
    obtain ⟨h1, h2⟩ := gcT_get (K := K) (live := live) l (i + 1)
    refine ⟨by simp [gcT, h1], fun j => ?_⟩
    cases j with
    | zero => simp [gcT]
    | succ j => simp only [gcT, List.getElem?_cons_succ, h2]; rw [show i + 1 + j = i + (j + 1) by omega]

theorem gcM_get {K : List Nat} {mem : List AB} : ∀ (l : List Nat), (gcM K mem l).length = l.length ∧ ∀ (k : Nat), (gcM K mem l)[k]? = (l[k]?).map fun b => gcAB K (lk mem b)
  | [] => ⟨rfl, fun j => by simp [gcM]⟩
  | b :: l => by
    obtain ⟨h1, h2⟩ := gcM_get (K := K) (mem := mem) l
    refine ⟨by simp [gcM, h1], fun j => ?_⟩
    cases j with
    | zero => simp [gcM]
    | succ j => simp [gcM, h2]

theorem knownAll_get {mem : List AB} : ∀ {l : List Nat}, knownAll mem l = true → ∀ b ∈ l, lk mem b ≠ .fut
  | [], _, b, hb => by simp at hb
  | c :: l, h, b, hb => by
    simp only [knownAll, Bool.and_eq_true] at h
    rcases List.mem_cons.1 hb with rfl | hb
    · intro e; rw [e] at h; simp at h
    · exact knownAll_get h.2 b hb

theorem lk_gcM {K : List Nat} {mem : List AB} {b : Nat} (hb : K.contains b = true) : lk (gcM K mem K) (K.idxOf b) = gcAB K (lk mem b) := by
  obtain ⟨_, h⟩ := gcM_get (K := K) (mem := mem) K
  simp only [lk, List.getD, h, idx_get hb, Option.map_some, Option.getD_some]

theorem gcAB_ne {K : List Nat} {x : AB} : gcAB K x ≠ .fut := by cases x <;> exact AB.noConfusion

theorem RA.gc {w : World} {g : Gh} {mem : List AB} {K : List Nat} {a : AV} {v : Value} (h : RA w g mem a v) : RA w (g.out true w K) (gcM K mem K) (gcAV K a) v := by
  have view : ∀ {b n : Nat} {X Y : Prop}, K.contains b = true → (X → Y) → viewOK n X (lk mem b) → viewOK n Y (lk (gcM K mem K) (K.idxOf b)) := by
    intro b n X Y hb hXY hv
    rw [lk_gcM hb]
    cases h : lk mem b with
    | fut => rw [h] at hv; exact hv.elim
    | gone => trivial
    | sv cells => rw [h] at hv; exact hv.elim
    | ar e m xs => rw [h] at hv; exact ⟨hv.1, fun h => hXY (hv.2 h)⟩
  induction h with
  | undef v => exact .undef v
  | non => exact .non
  | nil => exact .nil
  | d p v h0 => exact .d p v (h0.mono (fun q hq => by simpa [Gh.out] using hq) (fun q _ _ _ h => h))
  | tv b n xs v h0 h1 =>
    simp only [gcAV]
    split
    · rename_i hb
      exact .tv _ _ _ _ (view hb (fun hx => hx.mono (okB_in hb) (fun q _ _ _ h => h)) h0) h1
    · exact .undef v
  | sl b v h0 h1 =>
    simp only [gcAV]
    split
    · rename_i hb
      refine .sl _ _ ?_ h1
      rw [lk_gcM hb]
      cases h : lk mem b with
      | fut => rw [h] at h0; exact h0.elim
      | gone => trivial
      | sv cells => rw [h] at h0; exact h0.elim
      | ar e m xs =>
        rw [h] at h0
        simp only [gcAB, slOK, hdr] at h0 ⊢
        obtain ⟨e1, e2⟩ := out_loc (g := g) (pure := true) (w := w) (idx_get hb)
        rw [e1, e2]; exact h0
    · exact .undef v
  | ref b off v h0 h1 =>
    simp only [gcAV]
    split
    · rename_i hb
      refine .ref _ _ _ ?_ h1
      rw [lk_gcM hb]
      cases h : lk mem b with
      | fut => rw [h] at h0; exact h0.elim
      | gone => trivial
      | ar e m xs => rw [h] at h0; exact h0.elim
      | sv cells =>
        rw [h] at h0
        obtain ⟨q, hq, hv⟩ := h0
        exact ⟨q, (out_loc (idx_get hb)).1.trans hq, hv⟩
    · exact .undef v
  | el b i off v h0 h1 =>
    simp only [gcAV]
    split
    · rename_i hb
      refine .el _ _ _ _ ?_ h1
      rw [lk_gcM hb]
      cases h : lk mem b with
      | fut => rw [h] at h0; exact h0.elim
      | gone => trivial
      | sv cells => rw [h] at h0; exact h0.elim
      | ar e m xs =>
        rw [h] at h0
        obtain ⟨hi, q, hq, hv⟩ := h0
        exact ⟨hi, q, (out_loc (idx_get hb)).1.trans hq, hv⟩
    · exact .undef v
  | velN cells off v h0 => exact .velN _ _ _ (h0.mono (fun q hq => by simpa [Gh.out] using hq) (fun q _ _ _ h => h))
  | velS b n cells off v h0 h1 =>
    simp only [gcAV]
    split
    · rename_i hb
      exact .velS _ _ _ _ _ (view hb (fun hx => hx.mono (okB_in hb) (fun q _ _ _ h => h)) h0) h1
    · exact .undef v
  | agg cs vs hl h1 h0 ih =>
    obtain ⟨g1, g2⟩ := gcAVs_get (K := K) cs
    refine .agg _ _ (by rw [g1]; exact hl) h1 (fun i c v hc hv => ?_)
    rw [g2] at hc
    cases hi : cs[i]? with
    | none => rw [hi] at hc; cases hc
    | some c' => rw [hi] at hc; cases hc; exact ih i c' v hi hv
  | tup cs vs hl h0 ih =>
    obtain ⟨g1, g2⟩ := gcAVs_get (K := K) cs
    refine .tup _ _ (by rw [g1]; exact hl) (fun i c v hc hv => ?_)
    rw [g2] at hc
    cases hi : cs[i]? with
    | none => rw [hi] at hc; cases hc
    | some c' => rw [hi] at hc; cases hc; exact ih i c' v hi hv
  | fn f cs vs hl h0 ih =>
    obtain ⟨g1, g2⟩ := gcAVs_get (K := K) cs
    refine .fn f _ _ (by rw [g1]; exact hl) (fun i c v hc hv => ?_)
    rw [g2] at hc
    cases hi : cs[i]? with
    | none => rw [hi] at hc; cases hc
    | some c' => rw [hi] at hc; cases hc; exact ih i c' v hi hv

theorem Mem.gc {w : World} {g : Gh} {mem : List AB} (hm : Mem w g mem) {K : List Nat} (hn : K.Nodup) : Mem w (g.out true w K) (gcM K mem K) := by
  refine ⟨⟨fun q hq => ?_, fun q hq => out_ro (hm.good.new q hq), fun q k m hq => ?_⟩, fun k => ?_⟩
  · simp only [Gh.out, if_true] at hq
    exact ⟨out_ro (hm.good.ok q hq).1, (hm.good.ok q hq).2⟩
  · cases hst : g.st q with
    | ro => rw [out_ro hst] at hq; cases hq
    | own b m' =>
      cases hb : K.contains b with
      | false => rw [out_not hst hb] at hq; cases hq
      | true =>
        rw [out_own hst hb] at hq
        cases hq
        rw [lk_gcM hb]; exact gcAB_ne
  · cases hk : K[k]? with
    | none =>
      have : lk (gcM K mem K) k = .fut := by
        simp only [lk, List.getD, (gcM_get (K := K) (mem := mem) K).2, hk, Option.map_none]; rfl
      rw [this]; trivial
    | some b =>
      obtain ⟨hi, hb⟩ := idx_of hn hk
      have hlk : lk (gcM K mem K) k = gcAB K (lk mem b) := by rw [← hi]; exact lk_gcM hb
      rw [hlk]
      have hB := hm.rm b
      obtain ⟨e1, e2⟩ := out_loc (g := g) (pure := true) (w := w) hk
      cases hx : lk mem b with
      | fut => trivial
      | gone => trivial
      | sv cells =>
        rw [hx] at hB
        obtain ⟨q, cs, t, a1, a2, a3, a4, a5, a6⟩ := hB
        obtain ⟨g1, g2⟩ := gcAVs_get (K := K) cells
        refine ⟨q, cs, t, e1.trans a1, by rw [out_own a2 hb, hi], a3, by rw [g1]; exact a4, a5, fun j c v hj hv => ?_⟩
        rw [g2] at hj
        cases hc : cells[j]? with
        | none => rw [hc] at hj; cases hj
        | some c' => rw [hc] at hj; cases hj; exact (a6 j c' v hc hv).gc
      | ar e n xs =>
        rw [hx] at hB
        rcases hB with ⟨a1, a2⟩ | ⟨q, cs, t, a1, a2, a3, a4, a5, a6, a7, a8, a9⟩
        · exact .inl ⟨e1.trans a1, a2⟩
        · refine .inr ⟨q, cs, t, e1.trans a1, by rw [out_own a2 hb, hi], a3, by rw [e2]; exact a4, by rw [e2]; exact a5, by rw [e2]; exact a6, a7, a8, fun i x j p hx hp => ?_⟩
          obtain ⟨v, hv, ho⟩ := a9 i x j p hx hp
          exact ⟨v, hv, ho.keep fun q l hq => ⟨by rw [out_own hq hb, hi], rfl⟩⟩

theorem Rel.gc {σ : AS} {w : World} {g : Gh} {a : Act} (hr : Rel σ w g a) {K : List Nat} (hn : K.Nodup) (live : List Nat) : Rel (σ.gc K live) w (g.out true w K) a := by
  obtain ⟨t1, t2⟩ := gcT_get (K := K) (live := live) σ.tmps 0
  refine ⟨hr.mem.gc hn, fun t v ht => ?_, by rw [← hr.sz]; exact t1, hr.df⟩
  simp only [AS.gc] at ht
  rw [t2] at ht
  cases h : σ.tmps[t]? with
  | none => rw [h] at ht; cases ht
  | some c =>
    rw [h] at ht
    simp only [Option.map_some, Option.some.injEq] at ht
    subst ht
    split
    · exact (hr.tm t c h).gc
    · exact .undef _

theorem Env.gc {w0 w : World} {g0 g : Gh} {mem0 mem : List AB} (h : Env w0 g0 mem0 w g mem) {n0 : Nat} (hn0 : mem0.length ≤ n0) {K : List Nat} (hK : gcOK n0 K mem = true) : Env w0 g0 mem0 w (g.out true w K) (gcM K mem K) := by
  simp only [gcOK, Bool.and_eq_true] at hK
  obtain ⟨⟨h1, h2⟩, h3⟩ := hK
  have hid : ∀ b, lk mem0 b ≠ .fut → K[b]? = some b := by
    intro b hb
    have hlt : b < mem0.length := Nat.lt_of_not_le fun h' => hb (lk_ge h')
    have := keepsN_get h3 b (by omega)
    simpa using this
  refine ⟨⟨h.fr.size, fun r hr hs => ?_, fun b hb => ?_, h.fr.os, h.fr.out⟩, fun b hb => ?_⟩
  · obtain ⟨a1, a2, a3⟩ := h.fr.ro r hr hs
    exact ⟨a1, out_ro a2, fun h => a3 (by simpa [Gh.out] using h)⟩
  · obtain ⟨a1, a2⟩ := h.fr.loc b hb
    obtain ⟨e1, e2⟩ := out_loc (g := g) (pure := true) (w := w) (hid b hb)
    exact ⟨e1.trans a1, e2.trans a2⟩
  · obtain ⟨hi, hc⟩ := idx_of (nodupL_iff h1) (hid b hb)
    have := lk_gcM (mem := mem) hc
    rw [hi] at this
    rw [this]; exact gcAB_ne

/-- A loop: at most so many rounds; at each head what does not live is forgotten. -/
def aloop (n0 : Nat) (body : AS → (Ex → AS → Prop) → Prop) : Nat → AS → (Ex → AS → Prop) → Prop
  | 0, _, _ => False
  | n + 1, σ, Q => ∃ K live, gcOK n0 K σ.mem = true ∧ body (σ.gc K live) fun e τ => match e with
    | .normal => aloop n0 body n τ Q
    | e => Q e τ

/-- A region whose order is drawn. -/
def drawR (P : Program) (tt : TypeId → Option TI) (ops : Array Oper) (σ : AS) (k : AS → Prop) : Prop :=
  ∃ (E : List Eff) (pre : Nat → Nat → Bool), DrawOK P tt ops σ E pre ∧ k (fo (fun _ => true) 0 E σ)

/-- Code. -/
def awp (P : Program) (tt : TypeId → Option TI) (n0 : Nat) : Code → AS → (Ex → AS → Prop) → Prop
  | .skip, σ, Q => Q .normal σ
  | .seq x y, σ, Q => awp P tt n0 x σ fun e τ => match e with
    | .normal => awp P tt n0 y τ Q
    | e => Q e τ
  | .region _ ops draw, σ, Q => if draw then drawR P tt ops σ fun τ => Q .normal τ else aops P tt ops ops.toList σ fun τ => Q .normal τ
  | .cond c x y, σ, Q => match aeval σ.rd c with
    | some (.d (.bool b)) => if b then awp P tt n0 x σ Q else awp P tt n0 y σ Q
    | _ => False
  | .block id c, σ, Q => awp P tt n0 c σ fun e τ => if e = .exit id then Q .normal τ else Q e τ
  | .exit id, σ, Q => Q (.exit id) σ
  | .ret, σ, Q => Q .ret σ
  | .loop c, σ, Q => ∃ n, aloop n0 (awp P tt n0 c) n σ Q
  | _, _, _ => False

theorem Code.wp_imp {P : Program} {c : Code} {Q Q' : Exit → Act → World → Prop} {a : Act} {w : World} (h : c.wp P Q a w) (hq : ∀ e a w, Q e a w → Q' e a w) : c.wp P Q' a w := wp_mono h hq

section
variable {P : Program} {tt : TypeId → Option TI} (hT : TTok P tt) (hM : P.follows .mixedOrders = true) {w0 : World} {g0 : Gh} {mem0 : List AB} {n0 : Nat} (hn0 : mem0.length ≤ n0)
include hT hM hn0

theorem awp_sound : ∀ (c : Code) {σ : AS} {w : World} {g : Gh} {a : Act} {Q : Ex → AS → Prop}, Rel σ w g a → Env w0 g0 mem0 w g σ.mem → awp P tt n0 c σ Q → c.wp P (Post w0 g0 mem0 Q) a w
  | .skip, σ, w, g, a, Q, hr, he, h => wp_skip ⟨σ, g, hr, he, h⟩
  | .seq x y, σ, w, g, a, Q, hr, he, h => by
    refine wp_seq (wp_mono (awp_sound x hr he h) fun e a' w' hq => ?_)
    cases e with
    | normal => obtain ⟨τ, g', hr', he', hq⟩ := hq; exact awp_sound y hr' he' hq
    | exit id => exact hq
    | ret => exact hq
    | _ => exact hq.elim
  | .region id ops draw, σ, w, g, a, Q, hr, he, h => by
    cases draw with
    | false => exact wp_region_list (aops_sound hT (fun τ w' g' a' hr' he' hq => ⟨τ, g', hr', he', hq⟩) ops.toList hr he h)
    | true =>
      obtain ⟨E, pre, D, hk⟩ := h
      refine wp_region_any hM ?_
      have S : Step w g σ.mem { w with drawn := w.drawn + 1 } g σ.mem := Step.same (w := w) (w' := { w with drawn := w.drawn + 1 }) ⟨rfl, rfl, rfl⟩ hr.mem
      have hr' : Rel σ { w with drawn := w.drawn + 1 } g a := ⟨S.all, fun t v ht => (hr.tm t v ht).keep S.keep, hr.sz, hr.df⟩
      have h0 : ∀ j, (Array.replicate ops.size false).getD j false = false := fun j => by
        simp only [Array.getD_eq_getD_getElem?, Array.getElem?_replicate]
        split <;> rfl
      have e0 : ∀ (l : List Eff) (s : Nat), fo (fun j => (Array.replicate ops.size false).getD j false) s l σ = σ := by
        intro l
        induction l with
        | nil => intro s; rfl
        | cons x l ih => intro s; unfold fo; rw [h0]; exact ih (s + 1)
      refine draw_sound hT (w0 := w0) (g0 := g0) (mem0 := mem0) D (k := fun τ => Q .normal τ) (fun τ w' g' a' hr' he' hq => ⟨τ, g', hr', he', hq⟩) hk ops.size _ a _ g (by simp) ?_ (fun i j h => by rw [h0] at h; cases h) (by rw [e0]; exact hr') (by rw [e0]; exact he.step S)
      exact Nat.le_trans (List.length_filter_le _ _) (by simp)
  | .cond c x y, σ, w, g, a, Q, hr, he, h => by
    simp only [awp] at h
    split at h
    · rename_i b hb
      have hv := RA_bool (aeval_sound hr hb)
      cases b
      · exact wp_cond_false hv (awp_sound y hr he h)
      · exact wp_cond_true hv (awp_sound x hr he h)
    · exact h.elim
  | .block id c, σ, w, g, a, Q, hr, he, h => by
    refine wp_block (wp_mono (awp_sound c hr he h) fun e a' w' hq => ?_)
    cases e with
    | normal =>
      obtain ⟨τ, g', hr', he', hq⟩ := hq
      exact ⟨τ, g', hr', he', hq⟩
    | exit id' =>
      obtain ⟨τ, g', hr', he', hq⟩ := hq
      simp only [Exit.inBlock]
      by_cases hid : id' = id
      · subst hid
        rw [if_pos rfl]
        rw [if_pos rfl] at hq
        exact ⟨τ, g', hr', he', hq⟩
      · rw [if_neg hid]
        rw [if_neg (fun e => hid (by cases e; rfl))] at hq
        exact ⟨τ, g', hr', he', hq⟩
    | ret =>
      obtain ⟨τ, g', hr', he', hq⟩ := hq
      exact ⟨τ, g', hr', he', hq⟩
    | _ => exact hq.elim
  | .exit id, σ, w, g, a, Q, hr, he, h => wp_exit ⟨σ, g, hr, he, h⟩
  | .ret, σ, w, g, a, Q, hr, he, h => wp_ret ⟨σ, g, hr, he, h⟩
  | .loop c, σ, w, g, a, Q, hr, he, h => by
    obtain ⟨n, h⟩ := h
    refine wp_loop_rounds n ?_
    induction n generalizing σ w g a with
    | zero => exact h.elim
    | succ n ih =>
      obtain ⟨K, live, hK, h⟩ := h
      rw [rounds_succ]
      have hn : K.Nodup := by
        simp only [gcOK, Bool.and_eq_true] at hK
        exact nodupL_iff hK.1.1
      refine wp_mono (awp_sound c (hr.gc hn live) (he.gc hn0 hK) h) fun e a' w' hq => ?_
      cases e with
      | normal =>
        obtain ⟨τ, g', hr', he', hq⟩ := hq
        exact ih _ _ _ _ hr' he' hq
      | exit id => exact hq
      | ret => exact hq
      | _ => exact hq.elim
  | .rangeFunc .., _, _, _, _, _, _, _, h => h.elim
  | .scope _, _, _, _, _, _, _, _, h => h.elim
  | .label _, _, _, _, _, _, _, _, h => h.elim
  | .goto _, _, _, _, _, _, _, _, h => h.elim
  | .refuse _, _, _, _, _, _, _, _, h => h.elim

end

/-- A function's results. -/
def ares1 (tt : TypeId → Option TI) (ρ : Rd) : ResultVar → Option AV
  | .tmp t => ρ.t t
  | .cell a t => bi (ρ.t a) fun p => bi (tt t) fun i => bi (szOf i) fun sz => aload ρ sz p

def aresL (tt : TypeId → Option TI) (ρ : Rd) : List ResultVar → Option (List AV)
  | [] => some []
  | r :: l => bi (ares1 tt ρ r) fun a => bi (aresL tt ρ l) fun as => some (a :: as)

def ares (tt : TypeId → Option TI) (ρ : Rd) (l : List ResultVar) : Option AV :=
  bi (aresL tt ρ l) fun as => match as with
    | [a] => some a
    | as => some (.tup as)

def resV (tmps : Array Value) : ResultVar → Sem Value
  | .tmp t => pure (tmps.getD t undef)
  | .cell a t => do loadVar t (← asAddr (tmps.getD a undef))

theorem results_eq (fn : Func) (tmps : Array Value) : results fn tmps = (do
    let vs ← fn.results.mapM (resV tmps)
    pure (if h : vs.size = 1 then vs[0] else .tuple vs)) := by
  unfold results
  rfl

section
variable {P : Program} {tt : TypeId → Option TI} (hT : TTok P tt)
include hT

theorem ares1_run {σ : AS} {w : World} {g : Gh} {a : Act} (hr : Rel σ w g a) {r : ResultVar} {av : AV} (h : ares1 tt σ.rd r = some av) :
    ∃ v, (resV a.tmps r).run P w = .ok v w ∧ RA w g σ.mem av v := by
  cases r with
  | tmp t => exact ⟨_, rfl, hr.tm t av (defA_eq h).1⟩
  | cell x t =>
    simp only [ares1] at h
    obtain ⟨p, hp, h⟩ := bi_eq h
    obtain ⟨i, ht, h⟩ := bi_eq h
    obtain ⟨sz, hs, h⟩ := bi_eq h
    have hp' := hr.tm x p (defA_eq hp).1
    obtain ⟨u, hu, hA⟩ := aload_run hT ht hs hr.mem hp' h
    refine ⟨u, ?_, hA⟩
    simp only [resV]
    generalize a.tmps.getD x undef = v at hu hp'
    cases v with
    | pointer ad =>
      cases ad with
      | none => simp [Instr.loadAt, Instr.sureAddr] at hu
      | some ad => simpa [Instr.loadAt, Instr.sureAddr, asAddr] using hu
    | _ => simp [Instr.loadAt, Instr.sureAddr] at hu

theorem aresL_run {σ : AS} {w : World} {g : Gh} {a : Act} (hr : Rel σ w g a) : ∀ {l : List ResultVar} {as : List AV}, aresL tt σ.rd l = some as →
    ∃ vs : List Value, (l.mapM (resV a.tmps)).run P w = .ok vs w ∧ AllRA w g σ.mem as vs
  | [], as, h => by simp only [aresL] at h; cases h; exact ⟨[], by simp, rfl, fun i c u hc _ => by simp at hc⟩
  | r :: l, as, h => by
    simp only [aresL] at h
    obtain ⟨av, hav, h⟩ := bi_eq h
    obtain ⟨rest, hrest, h⟩ := bi_eq h
    cases h
    obtain ⟨v, hv, hA⟩ := ares1_run hT hr hav
    obtain ⟨vs, hvs, hAs⟩ := aresL_run hr hrest
    refine ⟨v :: vs, ?_, by simp [hAs.1], fun i c u hc hu => ?_⟩
    · rw [List.mapM_cons]
      simp only [Sem.run_bind, hv, Result.andThen_ok, hvs, Sem.run_pure]
    · cases i with
      | zero => simp at hc hu; subst hc; subst hu; exact hA
      | succ i => exact hAs.2 i c u (by simpa using hc) (by simpa using hu)

theorem ares_run {σ : AS} {w : World} {g : Gh} {a : Act} (hr : Rel σ w g a) {fn : Func} {av : AV} (h : ares tt σ.rd fn.results.toList = some av) :
    ∃ v, (results fn a.tmps).run P w = .ok v w ∧ RA w g σ.mem av v := by
  unfold ares at h
  obtain ⟨as, has, h⟩ := bi_eq h
  obtain ⟨vs, hvs, hA⟩ := aresL_run hT hr has
  have hrun : (fn.results.mapM (resV a.tmps)).run P w = .ok vs.toArray w := by
    rw [Array.mapM_eq_mapM_toList]
    simp only [Sem.run_map, hvs, Result.andThen_ok]
  rw [results_eq]
  split at h
  · rename_i a0
    cases h
    obtain ⟨u, rfl, hu⟩ := hA.one
    refine ⟨u, ?_, hu⟩
    simp only [Sem.run_bind, hrun, Result.andThen_ok, Sem.run_pure]
    rfl
  · rename_i hne
    cases h
    refine ⟨.tuple vs.toArray, ?_, .tup _ _ (by simpa using hA.1) (fun i c v hc hv => hA.2 i c v hc (by simpa using hv))⟩
    simp only [Sem.run_bind, hrun, Result.andThen_ok, Sem.run_pure]
    rw [dif_neg]
    intro hsz
    have : as.length = 1 := by rw [hA.1]; simpa using hsz
    match as, this with
    | [x], _ => exact hne x rfl

/-- What a function's end owes: its results, over the blocks that are kept. -/
def AEnd (tt : TypeId → Option TI) (n0 : Nat) (rs : List ResultVar) (res : AV) (mem1 : List AB) (e : Ex) (σ : AS) : Prop :=
  (e = .normal ∨ e = .ret) ∧ ∃ av K, ares tt σ.rd rs = some av ∧ gcOK n0 K σ.mem = true ∧ gcAV K av = res ∧ gcM K σ.mem K = mem1

theorem spec_of (hM : P.follows .mixedOrders = true) {f : FuncId} {fn : Func} {c : Code} (hf : P.funcs[f]? = some fn) (hb : fn.body = some c) (hn : (fn.name == "runtime.NumGoroutine") = false) {args : List AV} {mem : List AB} {res : AV} {mem1 : List AB}
    (h : awp P tt mem.length c ⟨args ++ List.replicate (fn.ntmps - args.length) .undef, mem⟩ (AEnd tt mem.length fn.results.toList res mem1)) : Spec P f args mem res mem1 := by
  refine ⟨⟨fn, hf, by rw [hb]; rfl, hn⟩, fun w g vs hm hA => ?_⟩
  refine calls_of_wp hf hb (wp_mono (awp_sound (w0 := w) (g0 := g) (mem0 := mem) hT hM (Nat.le_refl _) c (σ := ⟨args ++ List.replicate (fn.ntmps - args.length) .undef, mem⟩) (g := g) ⟨hm, fun t v ht => ?_, ?_, rfl⟩ ⟨⟨Nat.le_refl _, fun q _ hr => ⟨rfl, hr, id⟩, fun _ _ => ⟨rfl, rfl⟩, rfl, rfl⟩, fun _ h => h⟩ h) fun e a w' hq => ?_)
  · simp only at ht
    rw [List.getElem?_append] at ht
    split at ht
    · rename_i hlt
      have hlt' : t < vs.length := by rw [← hA.1]; exact hlt
      have : (vs.toArray ++ Array.replicate (fn.ntmps - vs.toArray.size) undef).getD t undef = vs[t] := by
        simp [Array.getD_eq_getD_getElem?, Array.getElem?_append, hlt']
      rw [this]
      exact hA.2 t v _ ht (List.getElem?_eq_getElem hlt')
    · rw [List.getElem?_replicate] at ht
      split at ht
      · cases ht; exact .undef _
      · cases ht
  · simp [hA.1]
  · have fin : (∃ σ g', Rel σ w' g' a ∧ Env w g mem w' g' σ.mem ∧ ∃ e, AEnd tt mem.length fn.results.toList res mem1 e σ) → a.defers = [] ∧ ∃ v, (results fn a.tmps).run P w' = .ok v w' ∧ ∃ v' g', Ending.returned v = .returned v' ∧ Mem w' g' mem1 ∧ RA w' g' mem1 res v' ∧ Fr w g mem w' g' := by
      rintro ⟨σ, g', hr, he, e, _, av, K, h1, h2, rfl, rfl⟩
      obtain ⟨v, hv, hA'⟩ := ares_run hT hr h1
      have hn : K.Nodup := by
        simp only [gcOK, Bool.and_eq_true] at h2
        exact nodupL_iff h2.1.1
      exact ⟨hr.df, v, hv, v, _, rfl, hr.mem.gc hn, hA'.gc, (he.gc (Nat.le_refl _) h2).fr⟩
    cases e with
    | normal => obtain ⟨σ, g', hr, he, hq⟩ := hq; exact fin ⟨σ, g', hr, he, _, hq⟩
    | ret => obtain ⟨σ, g', hr, he, hq⟩ := hq; exact fin ⟨σ, g', hr, he, _, hq⟩
    | exit id => obtain ⟨σ, g', hr, he, hq⟩ := hq; rcases hq.1 with h | h <;> cases h
    | _ => exact hq.elim

end
end Go.Proofs.Ytfeiaibdnnhlaaa
