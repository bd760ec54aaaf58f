import Derived.Test.Ytfeiaibdnnhlaaac
/- The abstract interpreter, part 4: each abstract operation is what the machine does. -/
set_option linter.unusedVariables false
set_option linter.unusedSimpArgs false
namespace Go.Proofs.Ytfeiaibdnnhlaaa

structure Rel (σ : AS) (w : World) (g : Gh) (a : Act) : Prop where
  mem : Mem w g σ.mem
  tm : ∀ t v, σ.tmps[t]? = some v → RA w g σ.mem v (a.tmps.getD t undef)
  sz : σ.tmps.length = a.tmps.size
  df : a.defers = []

def appW (ws : List (Nat × AB)) (mem : List AB) : List AB := ws.foldl (fun m x => setB m x.1 x.2) mem

def putT (l : List AV) : Option Tmp → AV → List AV
  | some t, v => l.set t v
  | none, _ => l

def AS.app (σ : AS) (dst : Option Tmp) (av : AV) (ws : List (Nat × AB)) : AS := { tmps := putT σ.tmps dst av, mem := appW ws σ.mem }

theorem Rel.step {σ : AS} {w w' : World} {g g' : Gh} {a : Act} (hr : Rel σ w g a) {dst : Option Tmp} {av : AV} {ws : List (Nat × AB)} {v : Value}
    (hs : Step w g σ.mem w' g' (appW ws σ.mem)) (hv : RA w' g' (appW ws σ.mem) av v) : Rel (σ.app dst av ws) w' g' (a.put dst v) := by
  refine ⟨hs.all, fun t u ht => ?_, ?_, ?_⟩
  · cases dst with
    | none => exact (hr.tm t u ht).keep hs.keep
    | some d =>
      simp only [AS.app, putT, List.getElem?_set] at ht
      by_cases hd : d = t
      · subst hd
        rw [if_pos rfl] at ht
        split at ht
        · rename_i hlt
          cases ht
          have : d < a.tmps.size := by rw [← hr.sz]; exact hlt
          show RA w' g' (appW ws σ.mem) av _
          simpa [Act.put, Array.getD_eq_getD_getElem?, this] using hv
        · cases ht
      · rw [if_neg hd] at ht
        have := (hr.tm t u ht).keep hs.keep
        show RA w' g' (appW ws σ.mem) u _
        simpa [Act.put, Array.getD_eq_getD_getElem?, Array.getElem?_setIfInBounds, hd] using this
  · cases dst <;> simp [AS.app, putT, Act.put, hr.sz]
  · cases dst <;> simp [Act.put, hr.df]

theorem bi_eq {α β : Type} {o : Option α} {f : α → Option β} {r : β} (h : bi o f = some r) : ∃ a, o = some a ∧ f a = some r := by
  cases o with
  | none => cases h
  | some a => exact ⟨a, rfl, h⟩

theorem omap_eq {α β : Type} {f : α → Option β} : ∀ {l : List α} {r : List β}, omap f l = some r → l.length = r.length ∧ ∀ (i : Nat) (a : α), l[i]? = some a → ∃ b, r[i]? = some b ∧ f a = some b
  | [], r, h => by cases h; exact ⟨rfl, fun i a ha => by simp at ha⟩
  | x :: l, r, h => by
    simp only [omap] at h
    split at h
    · cases h
    · rename_i b hb
      split at h
      · cases h
      · rename_i r' hr
        cases h
        obtain ⟨h1, h2⟩ := omap_eq hr
        refine ⟨by simp [h1], fun i a ha => ?_⟩
        cases i with
        | zero => simp at ha; subst ha; exact ⟨b, rfl, hb⟩
        | succ i => simp at ha; simpa using h2 i a ha

theorem ofV1_sound {w : World} {g : Gh} {mem : List AB} {v : Value} {a : AV} (h : ofV1 v = some a) : RA w g mem a v ∧ v.oneCell' = true ∧ isCell a = true := by
  unfold ofV1 at h
  split at h <;> cases h
  · exact ⟨.d _ _ (.int _ _), rfl, rfl⟩
  · exact ⟨.d _ _ (.bool _), rfl, rfl⟩
  · exact ⟨.d _ _ (.str _), rfl, rfl⟩
  · exact ⟨.nil, rfl, rfl⟩

theorem ofV_sound {w : World} {g : Gh} {mem : List AB} {v : Value} {a : AV} (h : ofV v = some a) : RA w g mem a v := by
  unfold ofV at h
  split at h
  · rename_i cs
    split at h
    · rename_i l hl
      cases h
      obtain ⟨h1, h2⟩ := omap_eq hl
      refine .agg l cs (by simpa using h1.symm) (fun v hv => ?_) (fun i c v hc hv => ?_)
      · obtain ⟨i, hi, rfl⟩ := List.getElem_of_mem hv
        obtain ⟨b, _, hb⟩ := h2 i cs.toList[i] (List.getElem?_eq_getElem hi)
        exact (ofV1_sound (w := w) (g := g) (mem := mem) hb).2.1
      · obtain ⟨b, hb1, hb2⟩ := h2 i v (by simpa using hv)
        rw [hc] at hb1; cases hb1
        exact (ofV1_sound hb2).1
    · cases h
  · exact (ofV1_sound h).1

theorem defA_eq {o : Option AV} {a : AV} (h : defA o = some a) : o = some a ∧ a ≠ .undef := by
  unfold defA at h
  split at h
  · cases h
  · rename_i hne; exact ⟨h, fun e => hne (by rw [h, e])⟩

theorem defB_eq {x y : AB} (h : defB x = some y) : x = y ∧ y ≠ .fut ∧ y ≠ .gone := by
  unfold defB at h
  split at h
  · cases h
  · cases h
  · rename_i h1 h2; cases h; exact ⟨rfl, h1, h2⟩

theorem aeval_sound {σ : AS} {w : World} {g : Gh} {a : Act} (hr : Rel σ w g a) {x : Operand} {av : AV} (h : aeval σ.rd x = some av) : RA w g σ.mem av (a.eval x) := by
  cases x with
  | tmp t => exact hr.tm t av (defA_eq h).1
  | const v => exact ofV_sound h
  | global _ => cases h
  | func f => cases h; exact .fn f [] #[] rfl (fun i c v hc _ => by simp at hc)

theorem isCell_one {w : World} {g : Gh} {mem : List AB} {a : AV} {v : Value} (h : RA w g mem a v) (hc : isCell a = true) : v.oneCell' = true ∧ v.cells = #[v] := by
  cases h with
  | undef v => cases hc
  | non => cases hc
  | nil => exact ⟨rfl, rfl⟩
  | d p v h => cases h <;> exact ⟨rfl, rfl⟩
  | tv b n xs v h h1 => cases v <;> first | exact ⟨rfl, rfl⟩ | cases h1
  | sl b v h h1 => cases v <;> first | exact ⟨rfl, rfl⟩ | cases h1
  | ref b o v h h1 => cases v <;> first | exact ⟨rfl, rfl⟩ | cases h1
  | el b i o v h h1 => cases v <;> first | exact ⟨rfl, rfl⟩ | cases h1
  | velN cells off v h => obtain ⟨q, o, rfl, _⟩ := h; exact ⟨rfl, rfl⟩
  | velS b n cells off v h h1 => cases v <;> first | exact ⟨rfl, rfl⟩ | cases h1
  | agg cs vs => cases hc
  | tup cs vs => cases hc
  | fn f cs vs => exact ⟨rfl, rfl⟩

/-- The cells of a value that may be stored. -/
theorem acells_sound {w : World} {g : Gh} {mem : List AB} {a : AV} {v : Value} (h : RA w g mem a v) (hc : (isCell a || isAggA a) = true) :
    (acells a).length = v.cells.size ∧ (∀ u ∈ v.cells.toList, u.oneCell' = true) ∧ ∀ (i : Nat) (c : AV) (u : Value), (acells a)[i]? = some c → v.cells[i]? = some u → RA w g mem c u := by
  by_cases h0 : isCell a = true
  · obtain ⟨h1, h2⟩ := isCell_one h h0
    have : acells a = [a] := by cases a <;> first | rfl | cases h0
    rw [this, h2]
    refine ⟨rfl, fun u hu => by simp at hu; rw [hu]; exact h1, fun i c u hi hu => ?_⟩
    cases i with
    | zero => simp at hi hu; subst hi; subst hu; exact h
    | succ i => simp at hi
  · simp [h0] at hc
    cases h with
    | agg cs vs hl h1 h => exact ⟨hl, h1, h⟩
    | _ => cases hc

theorem add_at (q o i : Nat) : (⟨q, o, none⟩ : Addr).add i = ⟨q, o + i, none⟩ := Addr.add_lit q o i

theorem isAgg_run {P : Program} {tt : TypeId → Option TI} (hT : TTok P tt) {t : TypeId} {i : TI} (ht : tt t = some i) {sz : Option Nat} (hs : szOf i = some sz) (w : World) :
    (isAgg t).run P w = .ok sz.isSome w ∧ (∀ n, sz = some n → (sizeOf t).run P w = .ok n w) := by
  obtain ⟨ti, h1, h2, h3, h4, h5, h6⟩ := hT t i ht
  unfold szOf at hs
  split at hs
  · rename_i fs hu
    cases hs
    rw [hu] at h5
    obtain ⟨F, hF, _⟩ := h5
    refine ⟨by simp [isAgg, run_underlying hF], fun n hn => ?_⟩
    cases hn
    simp [sizeOf, typeInfo, h1, h2]
  · cases hs
  · rename_i hn1 hn2
    cases hs
    refine ⟨?_, fun n hn => by cases hn⟩
    cases hu : i.ud with
    | struct fs => exact absurd hu (hn1 fs)
    | array => exact absurd hu hn2
    | bool => rw [hu] at h5; simp [isAgg, run_underlying h5]
    | int k => rw [hu] at h5; simp [isAgg, run_underlying h5]
    | string => rw [hu] at h5; simp [isAgg, run_underlying h5]
    | slice e => rw [hu] at h5; simp [isAgg, run_underlying h5]
    | other =>
      rw [hu] at h5
      obtain ⟨d, hd, hd1, hd2⟩ := h5
      simp only [isAgg, run_underlying hd, Sem.run_bind, Result.andThen_ok]
      cases d with
      | struct F => exact absurd rfl (hd1 F)
      | array n e => exact absurd rfl (hd2 n e)
      | _ => rfl

/-- Cells that can be read from an address on. -/
def ReadAt (w : World) (g : Gh) (mem : List AB) (q base : Nat) (cells : List AV) : Prop :=
  ∀ (j : Nat) (c : AV), cells[j]? = some c → ∃ u, w.cell? ⟨q, base + j, none⟩ = some u ∧ u.oneCell' = true ∧ RA w g mem c u

theorem pickC_run {P : Program} {tt : TypeId → Option TI} (hT : TTok P tt) {t : TypeId} {i : TI} (ht : tt t = some i) {sz : Option Nat} (hs : szOf i = some sz)
    {w : World} {g : Gh} {mem : List AB} {q base off : Nat} {cells : List AV} (hc : ReadAt w g mem q base cells) {r : AV} (hp : pickC sz cells off = some r) :
    ∃ u, (loadVar t ⟨q, base + off, none⟩).run P w = .ok u w ∧ RA w g mem r u := by
  obtain ⟨h1, h2⟩ := isAgg_run hT ht hs w
  cases sz with
  | none =>
    obtain ⟨u, hu, _, hr⟩ := hc off r hp
    refine ⟨u, ?_, hr⟩
    simp [loadVar, h1, hu]
  | some n =>
    simp only [pickC] at hp
    split at hp
    · rename_i hle
      cases hp
      have hsz := h2 n rfl
      have hk : ∀ j, j < n → ∃ c, cells[off + j]? = some c := fun j hj => ⟨cells[off + j], List.getElem?_eq_getElem (by omega)⟩
      have hu : ∀ j, j < n → w.cell? ((⟨q, base + off, none⟩ : Addr).add j) = some ((w.cell? ⟨q, base + off + j, none⟩).getD undef) := fun j hj => by
        obtain ⟨c, hcj⟩ := hk j hj
        obtain ⟨u, hu, _⟩ := hc _ c hcj
        rw [add_at, Nat.add_assoc, hu]; rfl
      have hrun := run_loadCells (P := P) w ⟨q, base + off, none⟩ n (fun j => (w.cell? ⟨q, base + off + j, none⟩).getD undef) hu
      refine ⟨.agg ((List.range n).map fun j => (w.cell? ⟨q, base + off + j, none⟩).getD undef).toArray, by simp [loadVar, h1, hsz, hrun], .agg _ _ ?_ (fun v hv => ?_) (fun j c v hj hv => ?_)⟩
      · simp; omega
      · simp only [List.mem_map, List.mem_range] at hv
        obtain ⟨j, hj, rfl⟩ := hv
        obtain ⟨c, hcj⟩ := hk j hj
        obtain ⟨u, hu, hone, _⟩ := hc _ c hcj
        rw [Nat.add_assoc, hu]; exact hone
      · rw [List.getElem?_take] at hj
        split at hj
        · rename_i hjn
          rw [List.getElem?_drop] at hj
          obtain ⟨u, hu, _, hr⟩ := hc _ c hj
          simp [hjn] at hv
          rw [Nat.add_assoc, hu] at hv
          simp at hv
          rw [← hv]; exact hr
        · cases hj
    · cases hp

theorem stampIs_eq {σ : AS} {b n : Nat} (h : stampIs σ.rd b n = true) : ∃ e xs, lk σ.mem b = .ar e n xs := by
  unfold stampIs at h
  split at h
  · rename_i e m xs hm
    obtain ⟨h1, _, _⟩ := defB_eq hm
    have : n = m := by simpa using h
    exact ⟨e, xs, by rw [h1, this]⟩
  · cases h

theorem rd_m {σ : AS} {b : Nat} {x : AB} (h : σ.rd.m b = some x) : lk σ.mem b = x := (defB_eq h).1

theorem pvw_RA {w : World} {g : Gh} {mem : List AB} {b n e : Nat} {xs : List (List PV)} (hb : lk mem b = .ar e n xs) {p : PV} {v : Value} (h : RO w (okB g b) p v) : RA w g mem (pvw b n p) v := by
  cases h with
  | int k n => exact .d _ _ (.int _ _)
  | bool x => exact .d _ _ (.bool _)
  | str s => exact .d _ _ (.str _)
  | nil a c => exact .tv _ _ _ _ (by rw [hb]; exact ⟨Nat.le_refl _, fun _ => .nil _ _⟩) rfl
  | ls e' ys q o c vs h1 h2 h3 h4 h5 => exact .tv _ _ _ _ (by rw [hb]; exact ⟨Nat.le_refl _, fun _ => .ls e' ys q o c vs h1 h2 h3 h4 h5⟩) rfl

/-- Where a pointer leads: the cells there. -/
theorem aload_run {P : Program} {tt : TypeId → Option TI} (hT : TTok P tt) {t : TypeId} {i : TI} (ht : tt t = some i) {sz : Option Nat} (hs : szOf i = some sz)
    {σ : AS} {w : World} {g : Gh} (hm : Mem w g σ.mem) {a r : AV} {v : Value} (ha : RA w g σ.mem a v) (hl : aload σ.rd sz a = some r) :
    ∃ u, (Instr.loadAt t v).run P w = .ok u w ∧ RA w g σ.mem r u := by
  have fin : ∀ {q base off : Nat} {cells : List AV}, v = .pointer (some ⟨q, base + off, none⟩) → ReadAt w g σ.mem q base cells → pickC sz cells off = some r →
      ∃ u, (Instr.loadAt t v).run P w = .ok u w ∧ RA w g σ.mem r u := by
    intro q base off cells hv hc hp
    obtain ⟨u, h1, h2⟩ := pickC_run hT ht hs hc hp
    exact ⟨u, by simp [Instr.loadAt, Instr.sureAddr, hv, h1], h2⟩
  cases ha with
  | ref b off v h h1 =>
    simp only [aload] at hl
    split at hl
    · rename_i cells hb
      have hb := rd_m hb
      rw [hb] at h
      obtain ⟨q, hq, hv⟩ := h
      have hB := hm.rm b
      rw [hb] at hB
      obtain ⟨q', cs, t', e1, e2, e3, e4, e5, e6⟩ := hB
      obtain rfl : q' = q := by rw [hq] at e1; cases e1; rfl
      refine fin (base := 0) (by rw [hv, Nat.zero_add]) (fun j c hj => ?_) hl
      have hj' : j < cs.size := by
        rcases Nat.lt_or_ge j cells.length with h | h
        · omega
        · rw [List.getElem?_eq_none h] at hj; cases hj
      exact ⟨cs[j], by rw [cell_of_block e3, Nat.zero_add]; exact Array.getElem?_eq_getElem hj', e5 _ (Array.getElem_mem_toList hj'), e6 j c _ hj (Array.getElem?_eq_getElem hj')⟩
    · cases hl
  | el b i off v h h1 =>
    simp only [aload] at hl
    split at hl
    · rename_i e n xs hb
      have hb := rd_m hb
      split at hl
      · rename_i x hx
        rw [hb] at h
        obtain ⟨hi, q, hq, hv⟩ := h
        have hB := hm.rm b
        rw [hb] at hB
        rcases hB with ⟨h1, h2⟩ | ⟨q', cs, t', e1, e2, e3, e4, e5, e6, e7, e8, e9⟩
        · rw [h1] at hq; cases hq
        obtain rfl : q' = q := by rw [hq] at e1; cases e1; rfl
        refine fin (base := i * e) hv (fun j c hj => ?_) hl
        simp only [List.getElem?_map] at hj
        cases hxj : x[j]? with
        | none => rw [hxj] at hj; cases hj
        | some p =>
          rw [hxj] at hj
          cases hj
          obtain ⟨u, hu, how⟩ := e9 i x j p hx hxj
          exact ⟨u, by rw [cell_of_block e3]; exact hu, how.oneCell, pvw_RA hb how.ro⟩
      · cases hl
    · cases hl
  | velN cells off v h =>
    obtain ⟨q, o, hv, hq, hc⟩ := h
    simp only [aload] at hl
    refine fin hv (fun j c hj => ?_) hl
    simp only [List.getElem?_map] at hj
    cases hxj : cells[j]? with
    | none => rw [hxj] at hj; cases hj
    | some p =>
      rw [hxj] at hj
      cases hj
      obtain ⟨u, hu, hr⟩ := hc j p hxj
      exact ⟨u, hu, hr.oneCell, .d _ _ hr⟩
  | velS b n cells off v h h1 =>
    simp only [aload] at hl
    split at hl
    · rename_i hst
      obtain ⟨e, xs, hb⟩ := stampIs_eq hst
      rw [hb] at h
      obtain ⟨q, o, hv, hq, hc⟩ := h.2 rfl
      refine fin hv (fun j c hj => ?_) hl
      simp only [List.getElem?_map] at hj
      cases hxj : cells[j]? with
      | none => rw [hxj] at hj; cases hj
      | some p =>
        rw [hxj] at hj
        cases hj
        obtain ⟨u, hu, hr⟩ := hc j p hxj
        exact ⟨u, hu, hr.oneCell, pvw_RA hb hr⟩
    · cases hl
  | _ => cases hl

/- STORES -/
theorem setB_setB (mem : List AB) (b : Nat) (x y : AB) : setB (setB mem b x) b y = setB mem b y := by
  unfold setB
  by_cases h : b < mem.length
  · rw [if_pos h, if_pos (by simpa using h), if_pos h, List.set_set]
  · rw [if_neg h, if_neg h, if_pos (by simp; omega)]
    have hl : (mem ++ List.replicate (b - mem.length) AB.fut).length = b := by simp; omega
    rw [List.set_append_right _ _ (by omega)]
    rw [hl, Nat.sub_self]
    rfl

theorem store_run {P : Program} {w : World} {ad : Addr} {v : Value} (h1 : v.oneCell' = true) (hc : ∃ u, w.cell? ad = some u) (hf : w.frozen? ad = false) :
    (store ad v).run P w = .ok () (w.setCell ad v) := by
  obtain ⟨u, hu⟩ := hc
  rw [run_store P w ad v .plain h1]
  simp [hu, hf]

/-- Several cells of a variable. -/
theorem svStores {P : Program} {g : Gh} {b q : Nat} (hq : g.loc b = some q) (o : Nat) : ∀ (us : List Value) (cs : List AV) (i : Nat) (cells : List AV) {w : World} {mem : List AB}, Mem w g mem →
    lk mem b = .sv cells → us.length = cs.length → o + i + cs.length ≤ cells.length → (∀ u ∈ us, u.oneCell' = true) →
    (∀ (j : Nat) (c : AV) (u : Value), cs[j]? = some c → us[j]? = some u → RA w g mem c u) →
    ∃ w', (storeCells ⟨q, o, none⟩ us i).run P w = .ok () w' ∧ Step w g mem w' g (setB mem b (.sv (splice cells (o + i) cs)))
  | [], cs, i, cells, w, mem, hm, hb, hl, _, _, _ => by
    have : cs = [] := List.eq_nil_of_length_eq_zero (by simpa using hl.symm)
    subst this
    have hs : setB mem b (.sv cells) = mem := by
      have hlt : b < mem.length := by
        rcases Nat.lt_or_ge b mem.length with h | h
        · exact h
        · simp [lk, List.getD, List.getElem?_eq_none h] at hb
      unfold setB
      rw [if_pos hlt]
      refine List.ext_getElem? fun j => ?_
      rw [List.getElem?_set]
      by_cases hj : b = j
      · subst hj
        rw [if_pos rfl, if_pos hlt]
        simp [lk, List.getD, List.getElem?_eq_getElem hlt] at hb
        rw [List.getElem?_eq_getElem hlt, hb]
      · rw [if_neg hj]
    refine ⟨w, rfl, ?_⟩
    simp only [splice]
    rw [hs]
    exact Step.refl hm
  | u :: us, [], i, cells, w, mem, hm, hb, hl, _, _, _ => by simp at hl
  | u :: us, c :: cs, i, cells, w, mem, hm, hb, hl, hle, h1, hr => by
    simp only [List.length_cons] at hl hle
    obtain ⟨hc, hf, S⟩ := Step.svStore hm hb hq (o := o + i) (a := c) (v := u) (by omega) (h1 u (by simp)) (hr 0 c u rfl rfl)
    obtain ⟨w', hrun, S'⟩ := svStores (P := P) hq o us cs (i + 1) (cells.set (o + i) c) S.all (by rw [lk_setB, if_pos rfl]) (by omega) (by simp; omega)
      (fun v hv => h1 v (by simp [hv])) (fun j c' u' hj hu => (hr (j + 1) c' u' (by simpa using hj) (by simpa using hu)).keep S.keep)
    refine ⟨w', ?_, ?_⟩
    · simp only [storeCells, Sem.run_bind, add_at, store_run (h1 u (by simp)) hc hf, Result.andThen_ok]
      exact hrun
    · have := S.tr S'
      rw [setB_setB] at this
      simpa [splice, Nat.add_assoc] using this

theorem toPV_run {σ : AS} {a : AV} {p : PV} {c : Option Nat} (h : toPV σ.rd a = some (p, c)) {w : World} {g : Gh} {mem : List AB} (hm : Mem w g mem) {v : Value} (ha : RA w g mem a v)
    {b : Nat} (hb : lk mem b ≠ .fut) (hc : ∀ d, c = some d → d ≠ b ∧ lk mem d = lk σ.mem d) (l : Nat × Nat) :
    ∃ g', Step w g mem w g' (appW (goneW c) mem) ∧ OW w g'.st b l p v ∧ (∀ d, g'.loc d = g.loc d) := by
  unfold toPV at h
  split at h
  · split at h
    · cases h
      refine ⟨g, Step.refl hm, ?_, fun _ => rfl⟩
      cases ha with
      | d _ _ h => cases h with
        | nil a c => exact .nil _ _ _
        | ls e xs q o c vs => exact .nil _ _ _
    · cases h
  · rename_i p' hp
    cases h
    refine ⟨g, Step.refl hm, ?_, fun _ => rfl⟩
    cases ha with
    | d _ _ h =>
      refine h.flat ?_
      cases p with
      | ls xs => exact absurd rfl (hp xs)
      | _ => rfl
  · cases h
    refine ⟨g, Step.refl hm, ?_, fun _ => rfl⟩
    cases ha
    exact .nil _ _ _
  · rename_i d
    split at h
    · rename_i e n xs hd
      cases h
      have hd := rd_m hd
      obtain ⟨h1, h2⟩ := hc d rfl
      rw [hd] at h2
      cases ha with
      | sl _ _ hs h1' =>
        rw [h2] at hs
        obtain ⟨S, O⟩ := Step.give hm h2 hb (Ne.symm h1) l
        exact ⟨_, S, by rw [hs]; exact O, fun _ => rfl⟩
    · cases h
  · cases h

theorem lk_appW_ne {ws : List (Nat × AB)} {d : Nat} : ∀ {mem : List AB}, (∀ x ∈ ws, x.1 ≠ d) → lk (appW ws mem) d = lk mem d := by
  induction ws with
  | nil => intro mem _; rfl
  | cons x ws ih =>
    intro mem h
    show lk (appW ws (setB mem x.1 x.2)) d = _
    rw [ih (fun y hy => h y (by simp [hy])), lk_setB, if_neg (Ne.symm (h x (by simp)))]

theorem appW_append (ws ws' : List (Nat × AB)) (mem : List AB) : appW (ws ++ ws') mem = appW ws' (appW ws mem) := by simp [appW]

/-- Several cells of an element. -/
theorem elStores {P : Program} {σ : AS} {b q i e : Nat} (o : Nat) : ∀ (us : List Value) (cs : List AV) (k n : Nat) (xs : List (List PV)) (x : List PV) (used : List Nat) (ws : List (Nat × AB)) {w : World} {g : Gh} {mem : List AB}, Mem w g mem →
    g.loc b = some q → lk mem b = .ar e n xs → xs[i]? = some x → us.length = cs.length → o + k + cs.length ≤ x.length → (∀ u ∈ us, u.oneCell' = true) →
    (∀ (j : Nat) (c : AV) (u : Value), cs[j]? = some c → us[j]? = some u → RA w g mem c u) →
    (∀ d, d ≠ b → d ∉ used → lk mem d = lk σ.mem d) → elSt σ.rd b i e n xs x (o + k) used cs = some ws →
    ∃ w' g', (storeCells ⟨q, i * e + o, none⟩ us k).run P w = .ok () w' ∧ Step w g mem w' g' (appW ws mem)
  | [], cs, k, n, xs, x, used, ws, w, g, mem, hm, hq, hb, hx, hl, _, _, _, _, h => by
    have : cs = [] := List.eq_nil_of_length_eq_zero (by simpa using hl.symm)
    subst this
    simp only [elSt] at h
    cases h
    exact ⟨w, g, rfl, Step.refl hm⟩
  | u :: us, [], k, n, xs, x, used, ws, w, g, mem, hm, hq, hb, hx, hl, _, _, _, _, h => by simp at hl
  | u :: us, a :: cs, k, n, xs, x, used, ws, w, g, mem, hm, hq, hb, hx, hl, hle, h1, hr, hu, h => by
    simp only [List.length_cons] at hl hle
    simp only [elSt] at h
    split at h
    · cases h
    · rename_i p c hp
      split at h
      · cases h
      · rename_i hnc
        split at h
        · cases h
        · rename_i ws' hws
          cases h
          have hcd : ∀ d, c = some d → d ≠ b ∧ d ∉ used := fun d hd => by
            subst hd
            simp at hnc
            exact ⟨hnc.1, hnc.2⟩
          have hbf : lk mem b ≠ .fut := by rw [hb]; exact AB.noConfusion
          obtain ⟨g1, S1, O1, L1⟩ := toPV_run hp hm (hr 0 a u rfl rfl) hbf (fun d hd => ⟨(hcd d hd).1, hu d (hcd d hd).1 (hcd d hd).2⟩) (q, i * e + (o + k))
          have hgb : lk (appW (goneW c) mem) b = .ar e n xs := by
            rw [lk_appW_ne, hb]
            intro y hy
            cases c with
            | none => simp [goneW] at hy
            | some d => simp [goneW] at hy; rw [hy]; exact (hcd d rfl).1
          obtain ⟨hc2, hf2, S2⟩ := Step.elStore S1.all hgb ((L1 b).trans hq) hx (off := o + k) (by omega) O1
          have hil : i < xs.length := by
            rcases Nat.lt_or_ge i xs.length with h | h
            · exact h
            · rw [List.getElem?_eq_none h] at hx; cases hx
          have S12 := S1.tr S2
          obtain ⟨w', g', hrun, S3⟩ := elStores (P := P) o us cs (k + 1) (n + 1) (xs.set i (x.set (o + k) p)) (x.set (o + k) p) (c.toList ++ used) ws' S2.all ((L1 b).trans hq)
            (by rw [lk_setB, if_pos rfl]) (by rw [List.getElem?_set, if_pos rfl, if_pos hil]) (by omega) (by rw [List.length_set]; omega) (fun v hv => h1 v (by simp [hv]))
            (fun j c' u' hj hu' => (hr (j + 1) c' u' (by simpa using hj) (by simpa using hu')).keep S12.keep)
            (fun d hdb hdu => by
              rw [lk_setB, if_neg hdb, lk_appW_ne]
              · exact hu d hdb (fun h => hdu (by simp [h]))
              · intro y hy
                cases c with
                | none => simp [goneW] at hy
                | some d' => simp [goneW] at hy; rw [hy]; exact fun e => hdu (by rw [← show d' = d from e]; simp))
            (by rw [Nat.add_assoc] at hws; exact hws)
          refine ⟨w', g', ?_, ?_⟩
          · simp only [storeCells, Sem.run_bind, add_at, Nat.add_assoc, store_run (h1 u (by simp)) hc2 hf2, Result.andThen_ok]
            exact hrun
          · have := S12.tr S3
            rw [appW_append]
            exact this

theorem astore_run {P : Program} {tt : TypeId → Option TI} (hT : TTok P tt) {t : TypeId} {i : TI} (ht : tt t = some i) {σ : AS} {w : World} {g : Gh} (hm : Mem w g σ.mem)
    {a x : AV} {v u : Value} (ha : RA w g σ.mem a v) (hx : RA w g σ.mem x u) {ws : List (Nat × AB)} (hs : astore σ.rd i.size a x = some ws) :
    ∃ w' g', (Instr.storeAt t v u).run P w = .ok () w' ∧ Step w g σ.mem w' g' (appW ws σ.mem) := by
  unfold astore at hs
  simp only [] at hs
  split at hs
  · rename_i hc
    simp only [Bool.and_eq_true, decide_eq_true_eq] at hc
    obtain ⟨hsz, hcell⟩ := hc
    obtain ⟨c1, c2, c3⟩ := acells_sound hx hcell
    obtain ⟨ti, h1, h2, _⟩ := hT t i ht
    have hsize : (sizeOf t).run P w = .ok i.size w := by simp [sizeOf, typeInfo, h1, h2]
    have hvs : u.cells.size = i.size := by omega
    split at hs
    · rename_i b off
      split at hs
      · rename_i cells hb
        have hb := rd_m hb
        split at hs
        · rename_i hle
          cases hs
          cases ha with
          | ref _ _ _ h h1 =>
            rw [hb] at h
            obtain ⟨q, hq, hv⟩ := h
            obtain ⟨w', hrun, S⟩ := svStores (P := P) hq off u.cells.toList (acells x) 0 cells hm hb (by simp; omega) (by omega) c2
              (fun j c z hj hz => c3 j c z hj (by simpa using hz))
            refine ⟨w', g, ?_, by simpa [appW] using S⟩
            simp only [Instr.storeAt, hv, Instr.sureAddr, storeVar, Sem.run_bind, Sem.run_pure, Result.andThen_ok, hsize, Sem.run_ite, hvs, ne_eq, not_true_eq_false, if_false]
            exact hrun
        · cases hs
      · cases hs
    · rename_i b j off
      split at hs
      · rename_i e n xs hb
        have hb := rd_m hb
        split at hs
        · rename_i x0 hx0
          split at hs
          · rename_i hle
            cases ha with
            | el _ _ _ _ h h1 =>
              rw [hb] at h
              obtain ⟨hi, q, hq, hv⟩ := h
              obtain ⟨w', g', hrun, S⟩ := elStores (P := P) (σ := σ) (e := e) (i := j) off u.cells.toList (acells x) 0 n xs x0 [] ws hm hq hb hx0 (by simp; omega) (by omega) c2
                (fun j c z hj hz => c3 j c z hj (by simpa using hz)) (fun d _ _ => rfl) hs
              refine ⟨w', g', ?_, S⟩
              simp only [Instr.storeAt, hv, Instr.sureAddr, storeVar, Sem.run_bind, Sem.run_pure, Result.andThen_ok, hsize, Sem.run_ite, hvs, ne_eq, not_true_eq_false, if_false]
              exact hrun
          · cases hs
        · cases hs
      · cases hs
    · cases hs
  · cases hs

end Go.Proofs.Ytfeiaibdnnhlaaa
