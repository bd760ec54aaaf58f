import Derived.Test.Ytfeiaibdnnhlaaam
/- The abstract interpreter, part 14: contracts, and calls by contract. -/
set_option linter.unusedSectionVars false
set_option linter.unusedVariables false
set_option linter.unusedSimpArgs false
namespace Go.Proofs.Ytfeiaibdnnhlaaa

/-- THE CONTRACT: called with values that are told by 'args' over the blocks 'mem', the function returns what is told by 'res' over the blocks 'mem1'. -/
def SpecOK (P : Program) (f : FuncId) (args : List AV) (mem : List AB) (res : AV) (mem1 : List AB) : Prop :=
  ∀ (w : World) (g : Gh) (vs : List Value), Mem w g mem → AllRA w g mem args vs →
    Calls P f vs.toArray w fun e w' => ∃ v g', e = .returned v ∧ Mem w' g' mem1 ∧ RA w' g' mem1 res v ∧ Fr w g mem w' g'

/-- The function has a body of its own. -/
def Callable (P : Program) (f : FuncId) : Prop := ∃ fn, P.funcs[f]? = some fn ∧ fn.body.isSome = true ∧ (fn.name == "runtime.NumGoroutine") = false

/-- A contract of a function that can be called. -/
def Spec (P : Program) (f : FuncId) (args : List AV) (mem : List AB) (res : AV) (mem1 : List AB) : Prop := Callable P f ∧ SpecOK P f args mem res mem1

mutual
/-- An argument as the callee sees it: the blocks of L go with the call, all else is data. -/
def outAV (ρ : Rd) (L : List Nat) : AV → Option AV
  | .undef => some .undef
  | .non => some .non
  | .nil => some .nil
  | .d p => some (.d p)
  | .tv b n xs => if L.contains b then some (.tv (L.idxOf b) n xs) else if stampIs ρ b n then some (.d (.ls xs)) else none
  | .sl b => if L.contains b then some (.sl (L.idxOf b)) else match ρ.m b with
    | some (.ar _ _ xs) => some (.d (.ls xs))
    | _ => none
  | .ref b o => if L.contains b then some (.ref (L.idxOf b) o) else none
  | .el b i o => if L.contains b then some (.el (L.idxOf b) i o) else none
  | .vel none cells o => some (.vel none cells o)
  | .vel (some (b, n)) cells o => if L.contains b then some (.vel (some (L.idxOf b, n)) cells o) else if stampIs ρ b n then some (.vel none cells o) else none
  | .agg cs => bi (outAVs ρ L cs) fun l => some (.agg l)
  | .tup cs => bi (outAVs ρ L cs) fun l => some (.tup l)
  | .fn f cs => bi (outAVs ρ L cs) fun l => some (.fn f l)
def outAVs (ρ : Rd) (L : List Nat) : List AV → Option (List AV)
  | [] => some []
  | a :: l => bi (outAV ρ L a) fun b => bi (outAVs ρ L l) fun r => some (b :: r)
end

def outAB (ρ : Rd) (L : List Nat) (b : Nat) : Option AB :=
  match ρ.m b with
  | some (.sv cells) => bi (outAVs ρ L cells) fun l => some (.sv l)
  | some (.ar e n xs) => some (.ar e n xs)
  | _ => none

/-- Only data: nothing that a block of the caller's own holds. -/
def plainA : AV → Bool
  | .nil => true
  | .d _ => true
  | .vel none _ _ => true
  | _ => false

def plainAs : List AV → Bool
  | [] => true
  | .agg cs :: l => cs.all plainA && plainAs l
  | a :: l => plainA a && plainAs l

def imp (L : List Nat) (nx k : Nat) : Nat :=
  match L[k]? with
  | some b => b
  | none => nx + (k - L.length)

def okL (pure : Bool) : PV → Bool
  | .ls [] => true
  | .ls _ => pure
  | _ => true

def okD (pure : Bool) (p : PV) : Bool := match pure with
  | true => true
  | false => okL false p

mutual
/-- A result as the caller sees it. -/
def inAV (pure : Bool) (L : List Nat) (nx : Nat) : AV → Option AV
  | .undef => some .undef
  | .non => some .non
  | .nil => some .nil
  | .d p => if okD pure p then some (.d p) else none
  | .tv _ _ _ => some .undef
  | .sl k => some (.sl (imp L nx k))
  | .ref k o => some (.ref (imp L nx k) o)
  | .el _ _ _ => some .undef
  | .vel none cells o => if pure then some (.vel none cells o) else some .undef
  | .vel (some _) _ _ => some .undef
  | .agg cs => bi (inAVs pure L nx cs) fun l => some (.agg l)
  | .tup cs => bi (inAVs pure L nx cs) fun l => some (.tup l)
  | .fn f cs => bi (inAVs pure L nx cs) fun l => some (.fn f l)
def inAVs (pure : Bool) (L : List Nat) (nx : Nat) : List AV → Option (List AV)
  | [] => some []
  | a :: l => bi (inAV pure L nx a) fun b => bi (inAVs pure L nx l) fun r => some (b :: r)
end

def inAB (ρ : Rd) (pure : Bool) (L : List Nat) (nx k : Nat) : AB → Option AB
  | .fut => some .gone
  | .gone => some .gone
  | .sv cells => bi (inAVs pure L nx cells) fun cs => match L[k]? with
    | none => some (.sv cs)
    | some b => match ρ.m b with
      | some (.sv _) => some (.sv cs)
      | _ => none
  | .ar e n xs => match L[k]? with
    | none => some (.ar e n xs)
    | some b => match ρ.m b with
      | some (.ar e0 n0 xs0) => if e = e0 ∧ xs0.length = xs.length then some (.ar e (n0 + 1) xs) else none
      | _ => none

def inABs (ρ : Rd) (pure : Bool) (L : List Nat) (nx : Nat) : Nat → List AB → Option (List (Nat × AB))
  | _, [] => some []
  | k, x :: r => bi (inAB ρ pure L nx k x) fun y => bi (inABs ρ pure L nx (k + 1) r) fun l => some ((imp L nx k, y) :: l)

def nodupL : List Nat → Bool
  | [] => true
  | b :: l => !l.contains b && nodupL l

theorem nodupL_iff : ∀ {l : List Nat}, nodupL l = true → l.Nodup
  | [], _ => List.nodup_nil
  | b :: l, h => by
    simp only [nodupL, Bool.and_eq_true, Bool.not_eq_true'] at h
    refine List.nodup_cons.2 ⟨fun hm => ?_, nodupL_iff h.2⟩
    have := h.1
    rw [List.contains_iff_mem.2 hm] at this
    cases this

theorem outAVs_get {ρ : Rd} {L : List Nat} : ∀ {cs l : List AV}, outAVs ρ L cs = some l → l.length = cs.length ∧ ∀ (i : Nat) (c : AV), cs[i]? = some c → ∃ c', l[i]? = some c' ∧ outAV ρ L c = some c'
  | [], l, h => by simp only [outAVs] at h; cases h; exact ⟨rfl, fun i c h => by simp at h⟩
  | a :: cs, l, h => by
    simp only [outAVs] at h
    obtain ⟨b, hb, h⟩ := bi_eq h
    obtain ⟨r, hr, h⟩ := bi_eq h
    cases h
    obtain ⟨h1, h2⟩ := outAVs_get hr
    refine ⟨by simp [h1], fun i c hc => ?_⟩
    cases i with
    | zero => simp at hc; subst hc; exact ⟨b, rfl, hb⟩
    | succ i => simp at hc; simpa using h2 i c hc

theorem inAVs_get {pure : Bool} {L : List Nat} {nx : Nat} : ∀ {cs l : List AV}, inAVs pure L nx cs = some l → l.length = cs.length ∧ ∀ (i : Nat) (c : AV), cs[i]? = some c → ∃ c', l[i]? = some c' ∧ inAV pure L nx c = some c'
  | [], l, h => by simp only [inAVs] at h; cases h; exact ⟨rfl, fun i c h => by simp at h⟩
  | a :: cs, l, h => by
    simp only [inAVs] at h
    obtain ⟨b, hb, h⟩ := bi_eq h
    obtain ⟨r, hr, h⟩ := bi_eq h
    cases h
    obtain ⟨h1, h2⟩ := inAVs_get hr
    refine ⟨by simp [h1], fun i c hc => ?_⟩
    cases i with
    | zero => simp at hc; subst hc; exact ⟨b, rfl, hb⟩
    | succ i => simp at hc; simpa using h2 i c hc

theorem inABs_get {ρ : Rd} {pure : Bool} {L : List Nat} {nx B : Nat} (inj : ∀ i j, i < B → j < B → imp L nx i = imp L nx j → i = j) : ∀ {l : List AB} {k : Nat} {ws : List (Nat × AB)}, k + l.length ≤ B → inABs ρ pure L nx k l = some ws → ∀ (mem : List AB),
    (∀ (j : Nat) (x : AB), l[j]? = some x → ∃ y, inAB ρ pure L nx (k + j) x = some y ∧ lk (appW ws mem) (imp L nx (k + j)) = y) ∧
    (∀ d, (∀ j, j < l.length → imp L nx (k + j) ≠ d) → lk (appW ws mem) d = lk mem d)
  | [], k, ws, _, h, mem => by simp only [inABs] at h; cases h; exact ⟨fun j x h => by simp at h, fun d _ => rfl⟩
  | x :: l, k, ws, hB, h, mem => by
    simp only [List.length_cons] at hB
    simp only [inABs] at h
    obtain ⟨y, hy, h⟩ := bi_eq h
    obtain ⟨r, hr, h⟩ := bi_eq h
    cases h
    obtain ⟨h1, h2⟩ := inABs_get inj (by omega) hr (setB mem (imp L nx k) y)
    refine ⟨fun j x' hx => ?_, fun d hd => ?_⟩
    · cases j with
      | zero =>
        simp at hx
        subst hx
        refine ⟨y, hy, ?_⟩
        show lk (appW r (setB mem (imp L nx k) y)) _ = _
        rw [h2 _ (fun j hj e => by have := inj _ _ (by omega) (by omega) e; omega), lk_setB, if_pos (by rw [Nat.add_zero])]
      | succ j =>
        simp at hx
        obtain ⟨y', a1, a2⟩ := h1 j x' hx
        rw [show k + (j + 1) = k + 1 + j by omega]
        exact ⟨y', a1, a2⟩
    · show lk (appW r (setB mem (imp L nx k) y)) d = _
      rw [h2 d (fun j hj => by have := hd (j + 1) (by simpa using hj); rwa [show k + (j + 1) = k + 1 + j by omega] at this), lk_setB, if_neg]
      have := hd 0 (by simp)
      exact fun e => this (by simpa using e.symm)

theorem outABs_get {ρ : Rd} {L : List Nat} : ∀ {l : List Nat} {m : List AB}, omap (outAB ρ L) l = some m → m.length = l.length ∧ ∀ (k b : Nat), l[k]? = some b → ∃ x, m[k]? = some x ∧ outAB ρ L b = some x :=
  fun h => ⟨(omap_eq h).1.symm, fun k b hb => (omap_eq h).2 k b hb⟩

/-- The callee's ghost. -/
def Gh.out (g : Gh) (pure : Bool) (w : World) (L : List Nat) : Gh :=
  { st := fun q => match g.st q with
      | .ro => .ro
      | .own b m => if L.contains b then .own (L.idxOf b) m else .ro
    loc := fun k => match L[k]? with
      | some b => g.loc b
      | none => none
    cap := fun k => match L[k]? with
      | some b => g.cap b
      | none => 0
    ok := if pure then g.ok else fun q => q < w.heap.size ∧ (g.st q = .ro ∨ ∃ b m, g.st q = .own b m ∧ L.contains b = false) }

theorem out_own {g : Gh} {pure : Bool} {w : World} {L : List Nat} {q b : Nat} {m : Option (Nat × Nat)} (h : g.st q = .own b m) (hb : L.contains b = true) : (g.out pure w L).st q = .own (L.idxOf b) m := by simp only [Gh.out, h, hb, if_true]
theorem out_not {g : Gh} {pure : Bool} {w : World} {L : List Nat} {q b : Nat} {m : Option (Nat × Nat)} (h : g.st q = .own b m) (hb : L.contains b = false) : (g.out pure w L).st q = .ro := by simp only [Gh.out, h, hb, Bool.false_eq_true, if_false]
theorem out_ro {g : Gh} {pure : Bool} {w : World} {L : List Nat} {q : Nat} (h : g.st q = .ro) : (g.out pure w L).st q = .ro := by simp only [Gh.out, h]
theorem out_loc {g : Gh} {pure : Bool} {w : World} {L : List Nat} {k b : Nat} (h : L[k]? = some b) : (g.out pure w L).loc k = g.loc b ∧ (g.out pure w L).cap k = g.cap b := by simp only [Gh.out, h, and_self]

theorem idx_get {L : List Nat} {b : Nat} (h : L.contains b = true) : L[L.idxOf b]? = some b := by
  have hm : b ∈ L := List.contains_iff_mem.1 h
  have := List.idxOf_lt_length_of_mem hm
  rw [List.getElem?_eq_getElem this, List.getElem_idxOf]

theorem idx_of {L : List Nat} (hn : L.Nodup) {k b : Nat} (h : L[k]? = some b) : L.idxOf b = k ∧ L.contains b = true := by
  have hm : b ∈ L := List.mem_of_getElem? h
  have hc : L.contains b = true := List.contains_iff_mem.2 hm
  refine ⟨?_, hc⟩
  have h2 := idx_get hc
  exact (List.getElem?_inj (List.idxOf_lt_length_of_mem hm) hn).1 (h2.trans h.symm)

section
variable {σ : AS} {w : World} {g : Gh}

theorem stamp_block {b n : Nat} (h : stampIs σ.rd b n = true) : ∃ e xs, lk σ.mem b = .ar e n xs := stampIs_eq h

theorem okB_out {L : List Nat} {b : Nat} (hm : Mem w g σ.mem) (hb : L.contains b = false) : ∀ q, okB g b q → (g.out false w L).ok q := by
  intro q ⟨l, hl⟩
  simp only [Gh.out, Bool.false_eq_true, if_false]
  exact ⟨own_lt hm.good hl, .inr ⟨b, l, hl, hb⟩⟩

theorem okB_in {pure : Bool} {L : List Nat} {b : Nat} (hb : L.contains b = true) : ∀ q, okB g b q → okB (g.out pure w L) (L.idxOf b) q := by
  intro q ⟨l, hl⟩
  exact ⟨l, out_own hl hb⟩

theorem ok_out {pure : Bool} {L : List Nat} (hm : Mem w g σ.mem) : ∀ q, g.ok q → (g.out pure w L).ok q := by
  intro q hq
  cases pure
  · simp only [Gh.out, Bool.false_eq_true, if_false]
    exact ⟨(hm.good.ok q hq).2, .inl (hm.good.ok q hq).1⟩
  · simp only [Gh.out, if_true]; exact hq

theorem RA.out (hm : Mem w g σ.mem) {L : List Nat} (hn : L.Nodup) {memL : List AB} (hL : omap (outAB σ.rd L) L = some memL) {a : AV} {v : Value} (h : RA w g σ.mem a v) :
    ∀ {a' : AV}, outAV σ.rd L a = some a' → RA w (g.out false w L) memL a' v := by
  obtain ⟨l1, l2⟩ := outABs_get hL
  have hlk : ∀ b, L.contains b = true → ∃ x, lk memL (L.idxOf b) = x ∧ outAB σ.rd L b = some x := by
    intro b hb
    obtain ⟨x, h1, h2⟩ := l2 _ b (idx_get hb)
    exact ⟨x, by simp [lk, List.getD, h1], h2⟩
  have same : ∀ (w : World) (ok : Nat → Prop) (q o : Nat) (u : Value), w.cell? ⟨q, o, none⟩ = some u → w.cell? ⟨q, o, none⟩ = some u := fun _ _ _ _ _ h => h
  have view : ∀ {b n : Nat} {X Y : Prop}, L.contains b = true → (X → Y) → viewOK n X (lk σ.mem b) → viewOK n Y (lk memL (L.idxOf b)) := by
    intro b n X Y hb hXY hv
    obtain ⟨x, h1, h2⟩ := hlk b hb
    rw [h1]
    unfold outAB at h2
    split at h2
    · rename_i cells hc
      rw [rd_m hc] at hv
      exact hv.elim
    · rename_i e m xs hc
      cases h2
      rw [rd_m hc] at hv
      exact ⟨hv.1, fun h => hXY (hv.2 h)⟩
    · cases h2
  induction h with
  | undef v => intro a' h; simp only [outAV] at h; cases h; exact .undef v
  | non => intro a' h; simp only [outAV] at h; cases h; exact .non
  | nil => intro a' h; simp only [outAV] at h; cases h; exact .nil
  | d p v h0 => intro a' h; simp only [outAV] at h; cases h; exact .d p v (h0.mono (ok_out hm) (fun q _ _ _ h => h))
  | tv b n xs v h0 h1 =>
    intro a' h
    simp only [outAV] at h
    split at h
    · rename_i hb
      cases h
      exact .tv _ _ _ _ (view hb (fun hx => hx.mono (okB_in hb) (fun q _ _ _ h => h)) h0) h1
    · rename_i hb
      split at h
      · rename_i hst
        cases h
        obtain ⟨e, xs', hk⟩ := stampIs_eq hst
        rw [hk] at h0
        exact .d _ _ ((h0.2 rfl).mono (okB_out hm (by simpa using hb)) (fun q _ _ _ h => h))
      · cases h
  | sl b v h0 h1 =>
    intro a' h
    simp only [outAV] at h
    split at h
    · rename_i hb
      cases h
      refine .sl _ _ ?_ h1
      obtain ⟨x, h2, h3⟩ := hlk b hb
      rw [h2]
      unfold outAB at h3
      split at h3
      · rename_i cells hc; rw [rd_m hc] at h0; exact h0.elim
      · rename_i e m xs hc
        cases h3
        rw [rd_m hc] at h0
        simp only [slOK, hdr] at h0 ⊢
        obtain ⟨e1, e2⟩ := out_loc (g := g) (pure := false) (w := w) (idx_get hb)
        rw [e1, e2]; exact h0
      · cases h3
    · rename_i hb
      split at h
      · rename_i e m xs hc
        cases h
        have hc := rd_m hc
        rw [hc] at h0
        have hB := hm.rm b
        rw [hc] at hB
        refine .d _ _ ?_
        simp only [slOK] at h0
        rcases hB with ⟨g1, g2⟩ | ⟨q, cs, t', e1, e2, e3, e4, e5, e6, e7, e8, e9⟩
        · subst g2; simp only [hdr, g1] at h0; rw [h0]; exact .nil _ _
        · simp only [hdr, e1] at h0
          rw [h0]
          have : RO w (okB g b) (.ls xs) (.slice (some ⟨q, 0, none⟩) xs.length (g.cap b)) := .ls e xs q 0 (g.cap b) (fun i k => cs.getD (i * e + k) Go.undef) ⟨none, e2⟩ e8 (fun i x k p hi hk => by
              obtain ⟨u, hu, _⟩ := e9 i x k p hi hk
              rw [cell_of_block e3, Nat.zero_add]
              simp [Array.getD_eq_getD_getElem?, hu]) (fun i x k p hi hk => by
              obtain ⟨u, hu, ho⟩ := e9 i x k p hi hk
              have : cs.getD (i * e + k) Go.undef = u := by simp [Array.getD_eq_getD_getElem?, hu]
              rw [this]
              exact ho.ro) e5
          exact this.mono (okB_out hm (by simpa using hb)) (fun q _ _ _ h => h)
      · cases h
  | ref b off v h0 h1 =>
    intro a' h
    simp only [outAV] at h
    split at h
    · rename_i hb
      cases h
      refine .ref _ _ _ ?_ h1
      obtain ⟨x, h2, h3⟩ := hlk b hb
      rw [h2]
      unfold outAB at h3
      split at h3
      · rename_i cells hc
        obtain ⟨l, hl, h3⟩ := bi_eq h3
        cases h3
        rw [rd_m hc] at h0
        obtain ⟨q, hq, hv⟩ := h0
        exact ⟨q, (out_loc (idx_get hb)).1.trans hq, hv⟩
      · rename_i e m xs hc; rw [rd_m hc] at h0; exact h0.elim
      · cases h3
    · cases h
  | el b i off v h0 h1 =>
    intro a' h
    simp only [outAV] at h
    split at h
    · rename_i hb
      cases h
      refine .el _ _ _ _ ?_ h1
      obtain ⟨x, h2, h3⟩ := hlk b hb
      rw [h2]
      unfold outAB at h3
      split at h3
      · rename_i cells hc; rw [rd_m hc] at h0; exact h0.elim
      · rename_i e m xs hc
        cases h3
        rw [rd_m hc] at h0
        obtain ⟨hi, q, hq, hv⟩ := h0
        exact ⟨hi, q, (out_loc (idx_get hb)).1.trans hq, hv⟩
      · cases h3
    · cases h
  | velN cells off v h0 => intro a' h; simp only [outAV] at h; cases h; exact .velN _ _ _ (h0.mono (ok_out hm) (fun q _ _ _ h => h))
  | velS b n cells off v h0 h1 =>
    intro a' h
    simp only [outAV] at h
    split at h
    · rename_i hb
      cases h
      exact .velS _ _ _ _ _ (view hb (fun hx => hx.mono (okB_in hb) (fun q _ _ _ h => h)) h0) h1
    · rename_i hb
      split at h
      · rename_i hst
        cases h
        obtain ⟨e, xs', hk⟩ := stampIs_eq hst
        rw [hk] at h0
        exact .velN _ _ _ ((h0.2 rfl).mono (okB_out hm (by simpa using hb)) (fun q _ _ _ h => h))
      · cases h
  | agg cs vs hl h1 h0 ih =>
    intro a' h
    simp only [outAV] at h
    obtain ⟨l, hl', h⟩ := bi_eq h
    cases h
    obtain ⟨g1, g2⟩ := outAVs_get hl'
    refine .agg _ _ (by rw [g1]; exact hl) h1 (fun i c v hc hv => ?_)
    have hi : i < cs.length := by
      rw [← g1]
      refine Nat.lt_of_not_le fun h' => ?_
      rw [List.getElem?_eq_none h'] at hc; cases hc
    obtain ⟨c', a1, a2⟩ := g2 i _ (List.getElem?_eq_getElem hi)
    rw [hc] at a1; cases a1
    exact ih i _ v (List.getElem?_eq_getElem hi) hv a2
  | tup cs vs hl h0 ih =>
    intro a' h
    simp only [outAV] at h
    obtain ⟨l, hl', h⟩ := bi_eq h
    cases h
    obtain ⟨g1, g2⟩ := outAVs_get hl'
    refine .tup _ _ (by rw [g1]; exact hl) (fun i c v hc hv => ?_)
    have hi : i < cs.length := by
      rw [← g1]
      refine Nat.lt_of_not_le fun h' => ?_
      rw [List.getElem?_eq_none h'] at hc; cases hc
    obtain ⟨c', a1, a2⟩ := g2 i _ (List.getElem?_eq_getElem hi)
    rw [hc] at a1; cases a1
    exact ih i _ v (List.getElem?_eq_getElem hi) hv a2
  | fn f cs vs hl h0 ih =>
    intro a' h
    simp only [outAV] at h
    obtain ⟨l, hl', h⟩ := bi_eq h
    cases h
    obtain ⟨g1, g2⟩ := outAVs_get hl'
    refine .fn f _ _ (by rw [g1]; exact hl) (fun i c v hc hv => ?_)
    have hi : i < cs.length := by
      rw [← g1]
      refine Nat.lt_of_not_le fun h' => ?_
      rw [List.getElem?_eq_none h'] at hc; cases hc
    obtain ⟨c', a1, a2⟩ := g2 i _ (List.getElem?_eq_getElem hi)
    rw [hc] at a1; cases a1
    exact ih i _ v (List.getElem?_eq_getElem hi) hv a2

theorem RA.plain (hm : Mem w g σ.mem) {a : AV} {v : Value} (h : RA w g σ.mem a v) (hp : plainA a = true) : RA w (g.out true w []) [] a v := by
  cases h with
  | nil => exact .nil
  | d p v h => exact .d _ _ (h.mono (ok_out hm) (fun q _ _ _ h => h))
  | velN cells off v h => exact .velN _ _ _ (h.mono (ok_out hm) (fun q _ _ _ h => h))
  | _ => cases hp

theorem plainAs_RA (hm : Mem w g σ.mem) : ∀ {as : List AV} {vs : List Value}, AllRA w g σ.mem as vs → plainAs as = true → AllRA w (g.out true w []) [] as vs
  | [], vs, h, _ => ⟨h.1, fun i c u hc _ => by simp at hc⟩
  | a :: as, [], h, _ => by have := h.1; simp at this
  | a :: as, v :: vs, h, hp => by
    have hrest : plainAs as = true := by
      unfold plainAs at hp
      split at hp
      · rename_i e; cases e
      · rename_i e; cases e; simp only [Bool.and_eq_true] at hp; exact hp.2
      · rename_i e; cases e; simp only [Bool.and_eq_true] at hp; exact hp.2
    have ih := plainAs_RA hm ⟨by have := h.1; simpa using this, fun i c u hc hu => h.2 (i + 1) c u (by simpa using hc) (by simpa using hu)⟩ hrest
    have h0 := h.2 0 a v rfl rfl
    have ha : RA w (g.out true w []) [] a v := by
      unfold plainAs at hp
      split at hp
      · rename_i e; cases e
      · rename_i cs l e
        cases e
        simp only [Bool.and_eq_true] at hp
        cases h0 with
        | agg _ us hl h1 hA =>
          exact .agg _ _ hl h1 (fun i c u hc hu => (hA i c u hc hu).plain hm (List.all_eq_true.1 hp.1 c (List.mem_of_getElem? hc)))
      · rename_i e; cases e; simp only [Bool.and_eq_true] at hp; exact h0.plain hm hp.1
    refine ⟨by have := ih.1; simp [this], fun i c u hc hu => ?_⟩
    cases i with
    | zero => simp at hc hu; subst hc; subst hu; exact ha
    | succ i => exact ih.2 i c u (by simpa using hc) (by simpa using hu)

/-- The ghost behind a call. -/
def Gh.inn (g g1 : Gh) (pure : Bool) (w : World) (L : List Nat) (nx c : Nat) : Gh :=
  { st := fun r => match g1.st r with
      | .own k m => .own (imp L nx k) m
      | .ro => if r < w.heap.size then (match g.st r with
        | .own d m => if L.contains d then .ro else .own d m
        | .ro => .ro) else .ro
    loc := fun d => if L.contains d then g.loc d else if nx ≤ d ∧ d < nx + c then g1.loc (L.length + (d - nx)) else g.loc d
    cap := fun d => if L.contains d then g.cap d else if nx ≤ d ∧ d < nx + c then g1.cap (L.length + (d - nx)) else g.cap d
    ok := if pure then fun q => g.ok q ∨ g1.ok q else g.ok }

/-- What a result says in the caller's memory. -/
theorem RA.inn {w' : World} {g1 g2 : Gh} {memR mem2 : List AB} {pure : Bool} {L : List Nat} {nx : Nat}
    (hlk : ∀ (k : Nat) (x : AB), lk memR k = x → x ≠ .fut → ∃ y, inAB σ.rd pure L nx k x = some y ∧ lk mem2 (imp L nx k) = y)
    (hloc : ∀ k, lk memR k ≠ .fut → g2.loc (imp L nx k) = g1.loc k ∧ g2.cap (imp L nx k) = g1.cap k) (hok : pure = true → ∀ q, g1.ok q → g2.ok q)
    {a : AV} {v : Value} (h : RA w' g1 memR a v) : ∀ {a' : AV}, inAV pure L nx a = some a' → RA w' g2 mem2 a' v := by
  induction h with
  | undef v => intro a' h; simp only [inAV] at h; cases h; exact .undef v
  | non => intro a' h; simp only [inAV] at h; cases h; exact .non
  | nil => intro a' h; simp only [inAV] at h; cases h; exact .nil
  | d p v h0 =>
    intro a' h
    simp only [inAV] at h
    split at h
    · rename_i hp
      cases h
      cases h0 with
      | int k n => exact .d _ _ (.int _ _)
      | bool b => exact .d _ _ (.bool _)
      | str s => exact .d _ _ (.str _)
      | nil a c => exact .d _ _ (.nil _ _)
      | ls e xs q o c vs h1 h2 h3 h4 h5 =>
        cases xs with
        | nil => exact .d _ _ (.nil _ _)
        | cons x xs =>
          have hpure : pure = true := by cases pure; exact hp; rfl
          exact .d _ _ ((RO.ls e (x :: xs) q o c vs h1 h2 h3 h4 h5).mono (hok hpure) (fun q _ _ _ h => h))
    · cases h
  | tv b n xs v h0 h1 => intro a' h; simp only [inAV] at h; cases h; exact .undef v
  | sl b v h0 h1 =>
    intro a' h
    simp only [inAV] at h
    cases h
    refine .sl _ _ ?_ h1
    have hnf : lk memR b ≠ .fut := by intro e; rw [e] at h0; exact h0
    obtain ⟨y, hy, hly⟩ := hlk b _ rfl hnf
    rw [hly]
    cases hx : lk memR b with
    | fut => exact absurd hx hnf
    | gone => rw [hx] at hy; simp only [inAB] at hy; cases hy; trivial
    | sv cells => rw [hx] at h0; exact h0.elim
    | ar e n xs =>
      rw [hx] at hy h0
      simp only [slOK, hdr] at h0
      obtain ⟨e1, e2⟩ := hloc b hnf
      have fin : ∀ m, y = .ar e m xs → slOK g2 (imp L nx b) v y := by
        intro m hm
        rw [hm]
        simp only [slOK, hdr, e1, e2]
        exact h0
      simp only [inAB] at hy
      split at hy
      · cases hy; exact fin n rfl
      · split at hy
        · split at hy
          · cases hy; exact fin _ rfl
          · cases hy
        · cases hy
  | ref b off v h0 h1 =>
    intro a' h
    simp only [inAV] at h
    cases h
    refine .ref _ _ _ ?_ h1
    have hnf : lk memR b ≠ .fut := by intro e; rw [e] at h0; exact h0
    obtain ⟨y, hy, hly⟩ := hlk b _ rfl hnf
    rw [hly]
    cases hx : lk memR b with
    | fut => exact absurd hx hnf
    | gone => rw [hx] at hy; simp only [inAB] at hy; cases hy; trivial
    | ar e n xs => rw [hx] at h0; exact h0.elim
    | sv cells =>
      rw [hx] at hy h0
      obtain ⟨q, hq, hv⟩ := h0
      have fin : ∀ cs, y = .sv cs → refOK g2 (imp L nx b) off v y := by
        intro cs hcs
        rw [hcs]
        exact ⟨q, (hloc b hnf).1.trans hq, hv⟩
      simp only [inAB] at hy
      obtain ⟨cs, _, hy⟩ := bi_eq hy
      split at hy
      · cases hy; exact fin _ rfl
      · split at hy
        · cases hy; exact fin _ rfl
        · cases hy
  | el b i off v h0 h1 => intro a' h; simp only [inAV] at h; cases h; exact .undef v
  | velN cells off v h0 =>
    intro a' h
    simp only [inAV] at h
    split at h
    · rename_i hp
      cases h
      exact .velN _ _ _ (h0.mono (hok hp) (fun q _ _ _ h => h))
    · cases h; exact .undef v
  | velS b n cells off v h0 h1 => intro a' h; simp only [inAV] at h; cases h; exact .undef v
  | agg cs vs hl h1 h0 ih =>
    intro a' h
    simp only [inAV] at h
    obtain ⟨l, hl', h⟩ := bi_eq h
    cases h
    obtain ⟨g1', g2'⟩ := inAVs_get hl'
    refine .agg _ _ (by rw [g1']; exact hl) h1 (fun i c v hc hv => ?_)
    have hi : i < cs.length := by
      rw [← g1']
      refine Nat.lt_of_not_le fun h' => ?_
      rw [List.getElem?_eq_none h'] at hc; cases hc
    obtain ⟨c', a1, a2⟩ := g2' i _ (List.getElem?_eq_getElem hi)
    rw [hc] at a1; cases a1
    exact ih i _ v (List.getElem?_eq_getElem hi) hv a2
  | tup cs vs hl h0 ih =>
    intro a' h
    simp only [inAV] at h
    obtain ⟨l, hl', h⟩ := bi_eq h
    cases h
    obtain ⟨g1', g2'⟩ := inAVs_get hl'
    refine .tup _ _ (by rw [g1']; exact hl) (fun i c v hc hv => ?_)
    have hi : i < cs.length := by
      rw [← g1']
      refine Nat.lt_of_not_le fun h' => ?_
      rw [List.getElem?_eq_none h'] at hc; cases hc
    obtain ⟨c', a1, a2⟩ := g2' i _ (List.getElem?_eq_getElem hi)
    rw [hc] at a1; cases a1
    exact ih i _ v (List.getElem?_eq_getElem hi) hv a2
  | fn f cs vs hl h0 ih =>
    intro a' h
    simp only [inAV] at h
    obtain ⟨l, hl', h⟩ := bi_eq h
    cases h
    obtain ⟨g1', g2'⟩ := inAVs_get hl'
    refine .fn f _ _ (by rw [g1']; exact hl) (fun i c v hc hv => ?_)
    have hi : i < cs.length := by
      rw [← g1']
      refine Nat.lt_of_not_le fun h' => ?_
      rw [List.getElem?_eq_none h'] at hc; cases hc
    obtain ⟨c', a1, a2⟩ := g2' i _ (List.getElem?_eq_getElem hi)
    rw [hc] at a1; cases a1
    exact ih i _ v (List.getElem?_eq_getElem hi) hv a2

end
end Go.Proofs.Ytfeiaibdnnhlaaa
