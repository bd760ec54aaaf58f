import Derived.Test.Ytfeiaibdnnhlaaak
import Derived.Laws.MakeOwn
/- The abstract interpreter, part 12: every abstract operation is what the machine does. -/
set_option linter.unusedSectionVars false
set_option linter.unusedVariables false
set_option linter.unusedSimpArgs false
namespace Go.Proofs.Ytfeiaibdnnhlaaa

/-- The machine does the operation, and what is known behind it is what the interpreter says. -/
def OpOK (P : Program) (σ : AS) (w : World) (g : Gh) (a : Act) (o : Oper) (av : AV) (ws : List (Nat × AB)) : Prop :=
  ∃ n v w' g', (execOp a.eval o).run P w = .ok n w' ∧ (n = .value v ∨ (n = .skip ∧ v = undef)) ∧ Step w g σ.mem w' g' (appW ws σ.mem) ∧ RA w' g' (appW ws σ.mem) av v

section
variable {P : Program} {tt : TypeId → Option TI} (hT : TTok P tt) {σ : AS} {w : World} {g : Gh} {a : Act} (hr : Rel σ w g a)
include hr

omit hr in
theorem pureOp (hm : Mem w g σ.mem) {o : Oper} {av : AV} {v : Value} (h : (execOp a.eval o).run P w = .ok (.value v) w) (hv : RA w g σ.mem av v) : OpOK P σ w g a o av [] :=
  ⟨_, v, w, g, h, .inl rfl, Step.refl hm, hv⟩

theorem newOp {o : Oper} {nx : Nat} {cells : List AV} {cs : Array Value} {t : TypeId} (hnx : lk σ.mem nx = .fut)
    (h : (execOp a.eval o).run P w = .ok (.value (.pointer (some ⟨w.heap.size, 0, none⟩))) (w.alloc (.cells cs t)))
    (hA : AllRA w g σ.mem cells cs.toList) (h1 : ∀ v ∈ cs.toList, v.oneCell' = true) : OpOK P σ w g a o (.ref nx 0) [(nx, .sv cells)] := by
  have hm := hr.mem
  have K := Keep.alloc (c := 0) hm.good hnx (.sv cells) AB.noConfusion (.cells cs t)
  have S := Step.alloc (c := 0) hm hnx (.sv cells) AB.noConfusion cs t ⟨w.heap.size, cs, t, by simp [Gh.put], by simp [Gh.put], heap_alloc_at, by simpa using hA.1.symm, h1,
    fun j c v hj hv => (hA.2 j c v hj (by simpa using hv)).keep K⟩
  refine ⟨_, _, _, _, h, .inl rfl, S, .ref _ _ _ ?_ rfl⟩
  show refOK _ nx 0 _ (lk (setB σ.mem nx (.sv cells)) nx)
  rw [lk_setB, if_pos rfl]
  exact ⟨w.heap.size, by simp [Gh.put], rfl⟩

include hT

theorem op_alloc {o : Oper} {nx : Nat} (hnx : lk σ.mem nx = .fut) {t : TypeId} (ho : o.op = .alloc t) {i : TI} (ht : tt t = some i) {z : List PV} (hz : i.zero = some z) : OpOK P σ w g a o (.ref nx 0) [(nx, .sv (z.map zAV))] := by
  obtain ⟨ti, h1, h2, h3, h4, _⟩ := hT t i ht
  obtain ⟨_, zok, zv, z1, z2⟩ := h4 z hz
  refine newOp hr hnx (cs := zv.cells) (t := t) ?_ (by rw [z2]; exact zeros_RA z) (fun v hv => ?_)
  · simp [execOp, ho, Instr.alloc, zeroValue, typeInfo, h1, z1, newVar, newRow]
  · rw [z2, List.mem_map] at hv
    obtain ⟨p, _, rfl⟩ := hv
    exact (zAV_RA (w := w) (g := g) (mem := []) p).2

theorem op_box {o : Oper} {nx : Nat} (hnx : lk σ.mem nx = .fut) {t : TypeId} {x : Operand} (ho : o.op = .box t x) {av : AV} (hx : aeval σ.rd x = some av) (hc : (isCell av || isAggA av) = true) :
    OpOK P σ w g a o (.ref nx 0) [(nx, .sv (acells av))] := by
  obtain ⟨h1, h2, h3⟩ := acells_sound (aeval_sound hr hx) hc
  refine newOp hr hnx (cs := (a.eval x).cells) (t := t) ?_ ⟨by simpa using h1, fun i c u hc hu => h3 i c u hc (by simpa using hu)⟩ h2
  simp [execOp, ho, Instr.box, newVar, newRow]

theorem op_unOp {x : Operand} {op : UnOp} {av : AV} {p : PV} {v : Value} {mem : List AB} (hx : RA w g mem av v) (h : aunOp op av = some p) : ∃ u, (Op.unary op v).run P w = .ok u w ∧ RA w g mem (.d p) u := by
  unfold aunOp at h
  split at h
  · cases h; cases RA_d hx; exact ⟨_, rfl, .d _ _ (.bool _)⟩
  · cases h; cases RA_d hx; exact ⟨_, by simp [Op.unary, Op.intArith], .d _ _ (.int _ _)⟩
  · cases h

omit hr hT in
theorem bytesOf_spec : ∀ {xs : List (List PV)} {l : List UInt8}, bytesOf xs = some l → xs.length = l.length ∧ ∀ (i : Nat) (x : List PV), xs[i]? = some x → ∃ n c, x = [.int .u8 n] ∧ l[i]? = some c ∧ c = UInt8.ofNat n.toNat
  | [], l, h => by cases h; exact ⟨rfl, fun i x h => by simp at h⟩
  | x :: xs, l, h => by
    unfold bytesOf at h
    split at h
    · rename_i e; cases e
    · rename_i n l' e
      cases e
      split at h
      · rename_i r hr
        cases h
        obtain ⟨h1, h2⟩ := bytesOf_spec hr
        refine ⟨by simp [h1], fun i x hx => ?_⟩
        cases i with
        | zero => simp at hx; exact ⟨n, _, hx.symm, rfl, rfl⟩
        | succ i => simp at hx; simpa using h2 i x hx
      · cases h
    · cases h

omit hr hT in
theorem bytes_loop {w : World} : ∀ (l : List Value) (us : List UInt8) (s : ByteArray), (∀ (i : Nat) (v : Value), l[i]? = some v → ∃ n c, v = .int .u8 n ∧ us[i]? = some c ∧ c = UInt8.ofNat n.toNat) → l.length = us.length →
    (forIn (m := Sem) l s (fun c r => match c with
      | .int .u8 n => pure (ForInStep.yield (r.push (UInt8.ofNat n.toNat)))
      | _ => do
        stuck (α := Unit) "bytesToString: byte expected"
        pure (ForInStep.yield r))).run P w = .ok ⟨s.data ++ us.toArray⟩ w
  | [], us, s, h, hl => by
    have : us = [] := List.eq_nil_of_length_eq_zero (by simpa using hl.symm)
    subst this
    simp
  | v :: l, us, s, h, hl => by
    obtain ⟨n, c, rfl, hc, hn⟩ := h 0 v rfl
    cases us with
    | nil => simp at hc
    | cons u us =>
      simp at hc
      subst hc
      have ih := bytes_loop (w := w) l us (s.push u) (fun i v hv => by simpa using h (i + 1) v (by simpa using hv)) (by simpa using hl)
      simp only [List.forIn_cons, Sem.run_bind, Sem.run_pure, Result.andThen_ok, ← hn, ih]
      simp [ByteArray.push]

omit hr in
theorem und_some {t : TypeId} {i : TI} (ht : tt t = some i) : ∃ d, P.underlying t = some d := by
  obtain ⟨_, _, _, _, _, h, _⟩ := hT t i ht
  cases hu : i.ud with
  | bool => rw [hu] at h; exact ⟨_, h⟩
  | int k => rw [hu] at h; exact ⟨_, h⟩
  | string => rw [hu] at h; exact ⟨_, h⟩
  | slice e => rw [hu] at h; exact ⟨_, h⟩
  | struct fs => rw [hu] at h; obtain ⟨F, h, _⟩ := h; exact ⟨_, h⟩
  | array => rw [hu] at h; exact h
  | other => rw [hu] at h; obtain ⟨d, h, _⟩ := h; exact ⟨_, h⟩

theorem bytesToString_run {av : AV} {v : Value} {xs : List (List PV)} {l : List UInt8} (hx : RA w g σ.mem av v) (hl : alist σ.rd av = some xs) (hb : bytesOf xs = some l) :
    (Conv.bytesToString v).run P w = .ok (.string ⟨l.toArray⟩) w := by
  obtain ⟨base, cap, hv, hc, hread⟩ := alist_run hr.mem hx hl
  obtain ⟨b1, b2⟩ := bytesOf_spec hb
  subst hv
  cases base with
  | none =>
    rcases hread with h | ⟨q, o, e, h, _⟩
    · subst h
      have : l = [] := List.eq_nil_of_length_eq_zero (by simpa using b1.symm)
      subst this
      rfl
    · cases h
  | some ad =>
    have hcells : ∃ vs : List Value, vs.length = xs.length ∧ (loadCells ad xs.length).run P w = .ok vs.toArray w ∧ ∀ (i : Nat) (v : Value), vs[i]? = some v → ∃ n c, v = .int .u8 n ∧ l[i]? = some c ∧ c = UInt8.ofNat n.toNat := by
      rcases hread with h | ⟨q, o, e, h, hw, hcell⟩
      · subst h; exact ⟨[], rfl, by simp [loadCells, loadCellsFrom], fun i v h => by simp at h⟩
      · cases h
        have hk : ∀ j, j < xs.length → ∃ n c, w.cell? ((⟨q, o, none⟩ : Addr).add j) = some (.int .u8 n) ∧ l[j]? = some c ∧ c = UInt8.ofNat n.toNat := by
          intro j hj
          obtain ⟨n, c, h1, h2, h3⟩ := b2 j _ (List.getElem?_eq_getElem hj)
          have he : e = 1 := by rw [← hw j _ (List.getElem?_eq_getElem hj), h1]; rfl
          obtain ⟨u, hu, hro⟩ := hcell j _ 0 (.int .u8 n) (List.getElem?_eq_getElem hj) (by rw [h1]; rfl)
          cases hro
          exact ⟨n, c, by rw [add_at, ← hu, he]; simp, h2, h3⟩
        refine ⟨(List.range xs.length).map fun j => (w.cell? ((⟨q, o, none⟩ : Addr).add j)).getD undef, by simp, ?_, fun j v hv => ?_⟩
        · exact run_loadCells (P := P) w ⟨q, o, none⟩ xs.length (fun j => (w.cell? ((⟨q, o, none⟩ : Addr).add j)).getD undef) (fun j hj => by obtain ⟨n, c, h1, _⟩ := hk j hj; rw [h1]; rfl)
        · by_cases hj : j < xs.length
          · rw [List.getElem?_map, List.getElem?_range hj] at hv
            obtain ⟨n, c, h1, h2, h3⟩ := hk j hj
            simp only [Option.map_some, h1, Option.getD_some, Option.some.injEq] at hv
            exact ⟨n, c, hv.symm, h2, h3⟩
          · rw [List.getElem?_eq_none (by simpa using hj)] at hv; cases hv
    obtain ⟨vs, v1, v2, v3⟩ := hcells
    have := bytes_loop (w := w) (P := P) vs l ByteArray.empty v3 (by omega)
    simp only [Conv.bytesToString, Sem.run_bind, v2, Result.andThen_ok]
    rw [← Array.forIn_toList]
    simp only [] at this ⊢
    erw [this]
    simp [ByteArray.empty, ByteArray.emptyWithCapacity]
    rfl

theorem convert_run {s t : TypeId} {av : AV} {p : PV} {v : Value} (hx : RA w g σ.mem av v) (h : aconvert tt σ.rd s t av = some p) : ∃ u, (convert s t v).run P w = .ok u w ∧ RA w g σ.mem (.d p) u := by
  unfold aconvert at h
  split at h
  · rename_i i j hs ht
    obtain ⟨ds, hds⟩ := und_some hT hs
    obtain ⟨_, _, _, _, _, hi, _⟩ := hT s i hs
    obtain ⟨_, _, _, _, _, hj, _⟩ := hT t j ht
    split at h
    · rename_i k _ n hu
      cases h
      rw [hu] at hj
      cases RA_d hx
      refine ⟨_, ?_, .d _ _ (.int _ _)⟩
      simp [convert, run_underlying hds, run_underlying (show P.underlying t = some (.int k) from hj), Conv.intToInt]
    · rename_i _ n hu
      rw [hu] at hj
      split at h
      · cases h
        cases RA_d hx
        exact ⟨_, by simp [convert, run_underlying hds, run_underlying (show P.underlying t = some .string from hj), Conv.intToString], .d _ _ (.str _)⟩
      · cases h
    · rename_i s' hu
      rw [hu] at hj
      split at h
      · cases h
        cases RA_d hx
        exact ⟨_, by simp [convert, run_underlying hds, run_underlying (show P.underlying t = some .string from hj)], .d _ _ (.str _)⟩
      · cases h
    · have hu : j.ud = .string := by assumption
      rw [hu] at hj
      split at h
      · rename_i e hue
        split at h
        · rename_i ke hke
          split at h
          · rename_i huk
            split at h
            · rename_i xs hxs
              split at h
              · rename_i l hl
                cases h
                rw [hue] at hi
                obtain ⟨_, _, _, _, _, hk, _⟩ := hT e ke hke
                rw [huk] at hk
                have hrun := bytesToString_run hT hr hx hxs hl
                obtain ⟨base, cap, hv, _⟩ := alist_run hr.mem hx hxs
                subst hv
                refine ⟨_, ?_, .d _ _ (.str _)⟩
                rw [← hrun]
                simp only [convert, Sem.run_bind, run_underlying (show P.underlying s = some (.slice e) from hi), run_underlying (show P.underlying t = some .string from hj), run_underlying (show P.underlying e = some (.int .u8) from hk), Result.andThen_ok]
              · cases h
            · cases h
          · cases h
        · cases h
      · cases h
    · cases h
  · cases h

theorem min_run {isMax : Bool} {x y r : AV} {u v : Value} {mem : List AB} (hx : RA w g mem x u) (hy : RA w g mem y v) (h : minmax isMax x y = some r) :
    (isMax = false → ∀ t ty, ∃ z, (Builtin.min_ t ty #[u, v]).run P w = .ok z w ∧ RA w g mem r z) ∧ (isMax = true → ∀ t ty, ∃ z, (Builtin.max_ t ty #[u, v]).run P w = .ok z w ∧ RA w g mem r z) := by
  unfold minmax at h
  split at h
  · split at h
    · rename_i hk
      subst hk
      cases h
      cases RA_d hx
      cases RA_d hy
      constructor
      · intro hm t ty
        subst hm
        exact ⟨_, by simp [Builtin.min_, Builtin.min2], .d _ _ (.int _ _)⟩
      · intro hm t ty
        subst hm
        exact ⟨_, by simp [Builtin.max_, Builtin.max2], .d _ _ (.int _ _)⟩
    · cases h
  · rename_i x y
    cases h
    cases RA_d hx
    cases RA_d hy
    constructor
    · intro hm t ty
      subst hm
      refine ⟨.string (if (Op.bytesLess x.toList y.toList || decide (x = y)) = true then x else y), ?_, .d _ _ (.str _)⟩
      by_cases hb : (Op.bytesLess x.toList y.toList || decide (x = y)) = true
      · simp only [Builtin.min_, List.foldlM_cons, List.foldlM_nil, Builtin.min2, Op.stringOp, asBool, toList_eq, Sem.run_bind, Sem.run_pure, Result.andThen_ok, hb, if_true]
      · simp only [Builtin.min_, List.foldlM_cons, List.foldlM_nil, Builtin.min2, Op.stringOp, asBool, toList_eq, Sem.run_bind, Sem.run_pure, Result.andThen_ok, hb, if_false]
    · intro hm t ty
      subst hm
      refine ⟨.string (if (!(Op.bytesLess x.toList y.toList)) = true then x else y), ?_, .d _ _ (.str _)⟩
      by_cases hb : (!(Op.bytesLess x.toList y.toList)) = true
      · simp only [Builtin.max_, List.foldlM_cons, List.foldlM_nil, Builtin.max2, Op.stringOp, asBool, Sem.run_bind, Sem.run_pure, Result.andThen_ok, hb, if_true]
      · simp only [Builtin.max_, List.foldlM_cons, List.foldlM_nil, Builtin.max2, Op.stringOp, asBool, Sem.run_bind, Sem.run_pure, Result.andThen_ok, hb, if_false]
  · cases h

omit hr hT in
theorem RA_int {mem : List AB} {k : IntKind} {n : Int} {v : Value} (h : RA w g mem (.d (.int k n)) v) : v = .int k n := by cases RA_d h; rfl

theorem op_makeSlice {o : Oper} {nx : Nat} (hnx : lk σ.mem nx = .fut) {t e : TypeId} {l c : Operand} (ho : o.op = .makeSlice t l c) {i j : TI} (ht : tt t = some i) (hu : i.ud = .slice e) (he : tt e = some j) {z : List PV} (hz : j.zero = some z)
    {kl kc : IntKind} {nl nc : Int} (hl : aeval σ.rd l = some (.d (.int kl nl))) (hc : aeval σ.rd c = some (.d (.int kc nc))) (h0 : 0 ≤ nl) (h1 : nl ≤ nc) (h2 : nc * j.bytes ≤ 140737488355328) (h3 : nc ≤ 140737488355328) (h4 : j.size = z.length) (h5 : 0 < j.size) :
    OpOK P σ w g a o (.sl nx) [(nx, .ar j.size 0 (List.replicate nl.toNat z))] := by
  have hm := hr.mem
  obtain ⟨ti, i1, i2, i3, i4, _⟩ := hT e j he
  obtain ⟨zl, zok, zv, z1, z2⟩ := i4 z hz
  have hzs : zv.cells.size = j.size := by
    have := congrArg List.length z2
    simp at this
    omega
  have hun := und_slice hT ht hu
  have e1 := aeval_sound hr hl
  have e2 := aeval_sound hr hc
  have r1 : a.eval l = .int kl nl := RA_int e1
  have r2 : a.eval c = .int kc nc := RA_int e2
  have hb : (ti.bytes : Int) * nc ≤ 281474976710656 := by rw [i3, Int.mul_comm]; omega
  let row : Array Value := (Array.range (nc.toNat * j.size)).map (zv.cells[· % zv.cells.size]!)
  have hrun : (execOp a.eval o).run P w = .ok (.value (.slice (some ⟨w.heap.size, 0, none⟩) nl.toNat nc.toNat)) (w.alloc (.cells row e)) := by
    have := run_make (P := P) w t e ti zv hun i1 z1 kl kc nl nc h0 h1 hb (by omega)
    rw [i2] at this
    simp only [execOp, ho, r1, r2, Sem.run_bind, this, Result.andThen_ok, Sem.run_pure]
    rfl
  have hget : ∀ k, k < nc.toNat * j.size → row[k]? = some (zval (z.getD (k % j.size) (.ls []))) := by
    intro k hk
    have hlt : k % zv.cells.size < zv.cells.size := Nat.mod_lt _ (by omega)
    simp only [row]
    rw [Array.getElem?_map, Array.getElem?_range, if_pos hk]
    simp only [Option.map_some, Option.some.injEq]
    rw [getElem!_pos zv.cells _ hlt]
    have : zv.cells.toList[k % zv.cells.size]? = some (zv.cells[k % zv.cells.size]) := by simp [hlt]
    rw [z2, List.getElem?_map] at this
    have hzl : k % zv.cells.size < z.length := by omega
    rw [List.getElem?_eq_getElem hzl] at this
    simp at this
    rw [← this, ← hzs]
    simp [List.getD, hzl]
  have hone : ∀ v ∈ row.toList, v.oneCell' = true := by
    intro v hv
    obtain ⟨k, hk⟩ := List.getElem?_of_mem hv
    have hk' : row[k]? = some v := by simpa using hk
    by_cases hlt : k < nc.toNat * j.size
    · rw [hget k hlt] at hk'; cases hk'; exact (zAV_RA (w := w) (g := g) (mem := []) _).2
    · rw [Array.getElem?_eq_none (by simp [row]; omega)] at hk'; cases hk'
  have hsize : row.size = nc.toNat * j.size := by simp [row]
  have hmx : nc.toNat ≤ maxLen := by
    have : (140737488355328 : Nat) ≤ maxLen := by decide
    omega
  have S := Step.alloc (c := nc.toNat) hm hnx (.ar j.size 0 (List.replicate nl.toNat z)) AB.noConfusion row e (.inr ⟨w.heap.size, row, e, by simp [Gh.put], by simp [Gh.put], heap_alloc_at, by simpa [Gh.put] using hsize, by simp [Gh.put]; omega,
    by simp only [Gh.put, if_pos]; exact hmx, hone, (fun i x hx => by
      rw [List.getElem?_replicate] at hx
      split at hx
      · cases hx; exact h4.symm
      · cases hx), (fun i x k p hx hp => by
      rw [List.getElem?_replicate] at hx
      split at hx
      · rename_i hi
        cases hx
        have hk : k < j.size := by
          rw [h4]
          rcases Nat.lt_or_ge k z.length with h | h
          · exact h
          · rw [List.getElem?_eq_none h] at hp; cases hp
        have hlt : i * j.size + k < nc.toNat * j.size := mul_lt_of (by omega) hk
        have hmod : (i * j.size + k) % j.size = k := by rw [Nat.mul_comm, Nat.mul_add_mod]; exact Nat.mod_eq_of_lt hk
        refine ⟨_, hget _ hlt, ?_⟩
        rw [hmod]
        have hgp : z.getD k (.ls []) = p := by simp [List.getD, hp]
        rw [hgp]
        cases p with
        | int k n => exact .int _ _ _
        | bool b => exact .bool _ _
        | str s => exact .str _ _
        | ls xs =>
          have := List.all_eq_true.1 zok _ (List.mem_of_getElem? hp)
          simp [zOk] at this
          subst this
          exact .nil _ _ _
      · cases hx)⟩)
  refine ⟨_, _, _, _, hrun, .inl rfl, S, .sl _ _ ?_ rfl⟩
  show slOK _ nx _ (lk (setB σ.mem nx _) nx)
  rw [lk_setB, if_pos rfl]
  simp [slOK, hdr, Gh.put]

omit hr hT in
theorem partsOk_spec : ∀ {k : Nat} {l : List (Nat × Operand)}, partsOk k l = true → ∀ (i : Nat) (x : Nat × Operand), l[i]? = some x → x.1 = k + i
  | k, [], _, i, x, h => by simp at h
  | k, (j, y) :: l, hp, i, x, h => by
    simp only [partsOk, Bool.and_eq_true, beq_iff_eq] at hp
    cases i with
    | zero => simp at h; subst h; simp [hp.1]
    | succ i => simp at h; have := partsOk_spec hp.2 i x h; omega

omit hr hT in
theorem flatCells_spec {mem : List AB} {size : Nat} : ∀ {as : List AV} {fl : List AV}, flatCells size as = some fl → ∀ (vs : List Value), as.length = vs.length → (∀ (i : Nat) (x : AV) (v : Value), as[i]? = some x → vs[i]? = some v → RA w g mem x v) →
    AllRA w g mem fl (vs.flatMap fun v => v.cells.toList) ∧ fl.length = as.length * size ∧ (∀ v ∈ vs, v.cells.size = size) ∧ ∀ u ∈ vs.flatMap (fun v => v.cells.toList), u.oneCell' = true
  | [], fl, h, vs, hl, hA => by
    have : vs = [] := List.eq_nil_of_length_eq_zero (by simpa using hl.symm)
    subst this
    cases h
    exact ⟨⟨rfl, fun i c u h => by simp at h⟩, by simp, by simp, by simp⟩
  | a :: as, fl, h, [], hl, hA => by simp at hl
  | a :: as, fl, h, v :: vs, hl, hA => by
    simp only [flatCells] at h
    split at h
    · rename_i hc
      simp only [Bool.and_eq_true, decide_eq_true_eq] at hc
      split at h
      · cases h
      · rename_i r hr
        cases h
        obtain ⟨d1, d2, d3⟩ := acells_sound (hA 0 a v rfl rfl) hc.2
        obtain ⟨e1, e2, e3, e4⟩ := flatCells_spec hr vs (by simpa using hl) (fun i x u hx hu => hA (i + 1) x u (by simpa using hx) (by simpa using hu))
        refine ⟨⟨by simp [d1, e1.1], fun i c u hx hu => ?_⟩, by simp [e2, hc.1, Nat.succ_mul]; omega, fun u hu => ?_, fun u hu => ?_⟩
        · simp only [List.flatMap_cons] at hu
          rw [List.getElem?_append] at hx hu
          by_cases hi : i < (acells a).length
          · rw [if_pos hi] at hx
            rw [if_pos (by simpa [← d1] using hi)] at hu
            exact d3 i c u hx (by simpa using hu)
          · rw [if_neg hi] at hx
            rw [if_neg (by simpa [← d1] using hi)] at hu
            refine e1.2 _ c u hx ?_
            rw [d1]; simpa using hu
        · simp only [List.mem_cons] at hu
          rcases hu with rfl | hu
          · omega
          · exact e3 u hu
        · simp only [List.flatMap_cons, List.mem_append] at hu
          rcases hu with hu | hu
          · exact d2 u hu
          · exact e4 u hu
    · cases h

theorem op_buildSlice {o : Oper} {nx : Nat} (hnx : lk σ.mem nx = .fut) {t e : TypeId} {len : Nat} {parts : Array (Nat × Operand)} (ho : o.op = .buildSlice t len parts) {i j : TI} (ht : tt t = some i) (hu : i.ud = .slice e) (he : tt e = some j) {z : List PV} (hz : j.zero = some z)
    (hp : partsOk 0 parts.toList = true) (hlen : parts.size = len) (h0 : 0 < j.size) (h24 : len * j.size ≤ 16777216) {ps : List (Nat × AV)} (hps : aparts σ.rd parts.toList = some ps)
    {fl : List AV} (hfl : flatCells j.size (ps.map (·.2)) = some fl) {r : List PV × List Nat} (hpv : toPVs σ.rd [] fl = some r) :
    OpOK P σ w g a o (.sl nx) (goneAll r.2 ++ [(nx, .ar j.size 0 (chunk len j.size r.1))]) := by
  have hm := hr.mem
  obtain ⟨ti, i1, i2, i3, i4, _⟩ := hT e j he
  obtain ⟨zl, zok, zv, z1, z2⟩ := i4 z hz
  have hun := und_slice hT ht hu
  obtain ⟨p1, p2⟩ := aparts_sound hr hps
  let vs : List (Nat × Value) := parts.toList.map fun x => (x.1, a.eval x.2)
  have hvl : ps.length = vs.length := by simp [vs, p1]
  have hvs : ∀ (k : Nat) (x : AV) (v : Value), (ps.map (·.2))[k]? = some x → (vs.map (·.2))[k]? = some v → RA w g σ.mem x v := by
    intro k x v hx hv
    simp only [vs, List.getElem?_map] at hx hv
    cases hk : parts.toList[k]? with
    | none => rw [hk] at hv; cases hv
    | some y =>
      rw [hk] at hv; cases hv
      obtain ⟨y', h1, h2, h3⟩ := p2 k y hk
      rw [h1] at hx; cases hx
      exact h3
  obtain ⟨f1, f2, f3, f4⟩ := flatCells_spec hfl (vs.map (·.2)) (by simp [hvl]) hvs
  have hplen : ps.length = len := by rw [p1]; simpa using hlen
  let zeros : Array Value := (Array.range (len * j.size)).map (zv.cells[· % zv.cells.size]!)
  have hzs : zeros.size = len * j.size := by simp [zeros]
  have hrow : ∀ (k : Nat) (x : Nat × Value), vs[k]? = some x → x.1 = 0 + k ∧ x.2.cells.size = j.size := by
    intro k x hx
    have hmem : x.2 ∈ vs.map (·.2) := List.mem_map.2 ⟨x, List.mem_of_getElem? hx, rfl⟩
    refine ⟨?_, f3 _ hmem⟩
    simp only [vs, List.getElem?_map] at hx
    cases hk : parts.toList[k]? with
    | none => rw [hk] at hx; cases hx
    | some y =>
      rw [hk] at hx; cases hx
      exact partsOk_spec hp k y hk
  have hvslen : vs.length = len := by rw [← hvl, hplen]
  obtain ⟨cells', c1, c2⟩ := fill_run (fun i => some (i * j.size, j.size)) (fun i => i * j.size) vs zeros (fun x hx => by
    obtain ⟨k, hk⟩ := List.getElem?_of_mem hx
    obtain ⟨a1, a2⟩ := hrow k x hk
    have hkl : k < len := by
      rw [← hvslen]
      rcases Nat.lt_or_ge k vs.length with h | h
      · exact h
      · rw [List.getElem?_eq_none h] at hk; cases hk
    have : (k + 1) * j.size ≤ len * j.size := Nat.mul_le_mul_right _ hkl
    rw [Nat.succ_mul] at this
    exact ⟨j.size, rfl, a2, by rw [hzs, a1, Nat.zero_add]; exact this⟩)
  rw [spliceAll_rows j.size vs 0 _ hrow (by simp [hzs, hvslen])] at c2
  simp only [Nat.zero_mul, List.take_zero, List.nil_append] at c2
  have hfm : (vs.flatMap fun x => x.2.cells.toList) = (vs.map (·.2)).flatMap fun v => v.cells.toList := by simp [List.flatMap_map]
  rw [hfm] at c2
  have hrun : (execOp a.eval o).run P w = .ok (.value (.slice (some ⟨w.heap.size, 0, none⟩) len len)) (w.alloc (.cells cells' e)) := by
    have hmap : (parts.map fun (i, x) => (i, a.eval x)).toList = vs := by simp [vs]
    have h24' : ¬ (len * j.size > 2 ^ 24) := by omega
    have hsz : (sizeOf e).run P w = .ok j.size w := size_run hT he w
    have hzv : (zeroValue e).run P w = .ok zv w := by simp [zeroValue, typeInfo, i1, z1]
    by_cases hz0 : len * j.size = 0
    · have hrw : (Array.range (len * j.size)).map (fun x => (#[] : Array Value)[x % (#[] : Array Value).size]!) = zeros := by
        apply Array.ext
        · simp [zeros]
        · intro k hk _; simp [hz0] at hk
      simp only [execOp, ho, Instr.buildSlice, Sem.run_bind, run_underlying hun, Result.andThen_ok, hsz, if_neg h24', hmap, Sem.run_pure]
      rw [if_pos hz0]
      simp only [Sem.run_bind, Sem.run_pure, Result.andThen_ok, hrw, c1, newRow, run_newObj]
      rfl
    · simp only [execOp, ho, Instr.buildSlice, Sem.run_bind, run_underlying hun, Result.andThen_ok, hsz, if_neg h24', hmap, Sem.run_pure]
      rw [if_neg hz0]
      simp only [Sem.run_bind, hzv, Sem.run_pure, Result.andThen_ok]
      rw [show (Array.range (len * j.size)).map (fun x => zv.cells[x % zv.cells.size]!) = zeros from rfl, c1]
      simp only [newRow, run_newObj, Sem.run_bind, Sem.run_pure, Result.andThen_ok]
      rfl
  obtain ⟨g', S, R⟩ := Step.lit hm hnx h0 hpv (cs := cells') (t := e) (by rw [c2]; exact f1) (by rw [c2]; exact f4) (n := len) (by rw [f2]; simp [hplen]) (by
    have h1 : len * 1 ≤ len * j.size := Nat.mul_le_mul_left _ h0
    have h2 : (16777216 : Nat) ≤ maxLen := by decide
    omega) (mem' := appW (goneAll r.2 ++ [(nx, .ar j.size 0 (chunk len j.size r.1))]) σ.mem) (fun d => by
      rw [appW_append]
      show lk (setB _ nx _) d = _
      rw [lk_setB]
      by_cases hd : d = nx
      · rw [if_pos hd, if_pos hd]
      · rw [if_neg hd, if_neg hd]
        have : ∀ (u : List Nat) (m : List AB), lk (appW (goneAll u) m) d = if d ∈ u then .gone else lk m d := by
          intro u
          induction u with
          | nil => intro m; rfl
          | cons c u ih =>
            intro m
            show lk (appW (goneAll u) (setB m c .gone)) d = _
            rw [ih, lk_setB]
            by_cases h1 : d ∈ u <;> by_cases h2 : d = c <;> simp [h1, h2]
        exact this r.2 σ.mem)
  exact ⟨_, _, _, g', hrun, .inl rfl, S, R⟩

end
end Go.Proofs.Ytfeiaibdnnhlaaa
