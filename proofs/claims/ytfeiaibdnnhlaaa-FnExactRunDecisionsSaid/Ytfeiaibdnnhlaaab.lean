import Derived.Test.Ytfeiaibdnnhlaaaa
/- The abstract interpreter, part 2: how memory's relation is kept by the elementary changes: a new block, a cell of a variable, an element, a block that changes its owner. -/
set_option linter.unusedVariables false
set_option linter.unusedSimpArgs false
namespace Go.Proofs.Ytfeiaibdnnhlaaa

def setB (mem : List AB) (b : Nat) (x : AB) : List AB :=
  if b < mem.length then mem.set b x else mem ++ List.replicate (b - mem.length) .fut ++ [x]

theorem lk_setB (mem : List AB) (b : Nat) (x : AB) (c : Nat) : lk (setB mem b x) c = if c = b then x else lk mem c := by
  unfold setB lk
  by_cases h : b < mem.length
  · rw [if_pos h]
    by_cases hc : c = b
    · subst hc; simp [List.getD, h]
    · simp [List.getD, hc, Ne.symm hc]
  · rw [if_neg h]
    by_cases hc : c = b
    · subst hc
      rw [if_pos rfl]
      simp only [List.getD]
      rw [List.getElem?_append_right (by simp; omega)]
      have : c - (mem ++ List.replicate (c - mem.length) AB.fut).length = 0 := by simp; omega
      rw [this]; rfl
    · rw [if_neg hc]
      simp only [List.getD]
      rcases Nat.lt_or_ge c mem.length with h1 | h1
      · rw [List.append_assoc, List.getElem?_append_left h1]
      · rw [List.getElem?_eq_none h1]
        rcases Nat.lt_or_ge c b with h2 | h2
        · rw [List.getElem?_append_left (by simp; omega), List.getElem?_append_right h1, List.getElem?_replicate]
          simp
          split <;> rfl
        · rw [List.getElem?_eq_none (by simp; omega)]

theorem setB_end (mem : List AB) (x : AB) : setB mem mem.length x = mem ++ [x] := by simp [setB]

/-- A block that is not touched says what it said. -/
theorem BR.keep {w w' : World} {g g' : Gh} {mem mem' : List AB} (K : Keep w g mem w' g' mem') {b : Nat} {x : AB} (h : BR w g mem b x)
    (hl : g'.loc b = g.loc b) (hc : g'.cap b = g.cap b)
    (hq : ∀ q l, g.st q = .own b l → g'.st q = .own b l ∧ w'.heap[q]? = w.heap[q]?) : BR w' g' mem' b x := by
  cases x with
  | fut => trivial
  | gone => trivial
  | sv cells =>
    obtain ⟨q, cs, t, h1, h2, h3, h4, h5, h6⟩ := h
    obtain ⟨a1, a2⟩ := hq q none h2
    exact ⟨q, cs, t, hl.trans h1, a1, a2.trans h3, h4, h5, fun j c v hj hv => (h6 j c v hj hv).keep K⟩
  | ar e n xs =>
    rcases h with ⟨h1, h2⟩ | ⟨q, cs, t, h1, h2, h3, h4, h5, h6, h7, h8, h9⟩
    · exact .inl ⟨hl.trans h1, h2⟩
    · obtain ⟨a1, a2⟩ := hq q none h2
      refine .inr ⟨q, cs, t, hl.trans h1, a1, a2.trans h3, hc ▸ h4, hc ▸ h5, hc ▸ h6, h7, h8, fun i x j p hi hj => ?_⟩
      obtain ⟨v, hv, ho⟩ := h9 i x j p hi hj
      exact ⟨v, hv, ho.keep fun q l hl => hq q (some l) hl⟩

/-- Nothing has happened but draws. -/
structure SameHeap (w w' : World) : Prop where
  heap : w'.heap = w.heap
  os : w'.os = w.os
  out : w'.output = w.output

theorem SameHeap.cell {w w' : World} (h : SameHeap w w') (a : Addr) : w'.cell? a = w.cell? a := by simp [World.cell?, h.heap]

theorem Keep.same {w w' : World} (h : SameHeap w w') (g : Gh) (mem : List AB) : Keep w g mem w' g mem where
  ok := fun q hq => ⟨hq, fun _ _ hc => by rw [h.cell]; exact hc⟩
  nofut := fun _ h => h
  sv := fun b cells _ h => ⟨⟨cells, h⟩, rfl⟩
  ar := fun b e n xs _ hb => ⟨n, xs, hb, rfl, Nat.le_refl _, rfl, rfl, fun _ q l hq => ⟨hq, fun _ _ hc => by rw [h.cell]; exact hc⟩⟩

theorem RM.same {w w' : World} (h : SameHeap w w') {g : Gh} {mem : List AB} (hm : RM w g mem) : RM w' g mem :=
  fun b => (hm b).keep (Keep.same h g mem) rfl rfl fun _ _ hq => ⟨hq, by rw [h.heap]⟩

theorem Good.same {w w' : World} (h : SameHeap w w') {g : Gh} {mem : List AB} (hg : Good w g mem) : Good w' g mem :=
  ⟨fun q hq => by rw [h.heap]; exact hg.ok q hq, fun q hq => hg.new q (by rw [← h.heap]; exact hq), hg.nf⟩

theorem Fr.same {w w' : World} (h : SameHeap w w') (g : Gh) (mem : List AB) : Fr w g mem w' g :=
  ⟨by rw [h.heap]; exact Nat.le_refl _, fun q _ hr => ⟨by rw [h.heap], hr, id⟩, fun _ _ => ⟨rfl, rfl⟩, h.os, h.out⟩

theorem Fr.trans {w w1 w2 : World} {g g1 g2 : Gh} {mem mem1 : List AB} (h1 : Fr w g mem w1 g1) (h2 : Fr w1 g1 mem1 w2 g2)
    (hn : ∀ b, lk mem b ≠ .fut → lk mem1 b ≠ .fut) : Fr w g mem w2 g2 where
  size := Nat.le_trans h1.size h2.size
  ro := fun q hq hr => by
    obtain ⟨a1, a2, a3⟩ := h1.ro q hq hr
    obtain ⟨b1, b2, b3⟩ := h2.ro q (Nat.lt_of_lt_of_le hq h1.size) a2
    exact ⟨b1.trans a1, b2, fun h => a3 (b3 h)⟩
  loc := fun b hb => by
    obtain ⟨a1, a2⟩ := h1.loc b hb
    obtain ⟨b1, b2⟩ := h2.loc b (hn b hb)
    exact ⟨b1.trans a1, b2.trans a2⟩
  os := h2.os.trans h1.os
  out := h2.out.trans h1.out

/-- All that a state says of memory; and what one step keeps. -/
structure Mem (w : World) (g : Gh) (mem : List AB) : Prop where
  good : Good w g mem
  rm : RM w g mem

structure Step (w : World) (g : Gh) (mem : List AB) (w' : World) (g' : Gh) (mem' : List AB) : Prop where
  all : Mem w' g' mem'
  keep : Keep w g mem w' g' mem'
  fr : Fr w g mem w' g'

theorem Step.same {w w' : World} (h : SameHeap w w') {g : Gh} {mem : List AB} (hm : Mem w g mem) : Step w g mem w' g mem :=
  ⟨⟨hm.good.same h, hm.rm.same h⟩, Keep.same h g mem, Fr.same h g mem⟩

theorem Step.refl {w : World} {g : Gh} {mem : List AB} (hm : Mem w g mem) : Step w g mem w g mem := Step.same ⟨rfl, rfl, rfl⟩ hm

/-- The ghost behind a new block. -/
def Gh.put (g : Gh) (q b c : Nat) : Gh :=
  { st := fun r => if r = q then .own b none else g.st r, loc := fun x => if x = b then some q else g.loc x, cap := fun x => if x = b then c else g.cap x, ok := g.ok }

theorem heap_alloc_lt {w : World} {o : Obj} {q : Nat} (h : q < w.heap.size) : (w.alloc o).heap[q]? = w.heap[q]? := by
  simp only [World.alloc, Array.getElem?_push]
  rw [if_neg (by omega)]

theorem heap_alloc_at {w : World} {o : Obj} : (w.alloc o).heap[w.heap.size]? = some o := by
  simp only [World.alloc, Array.getElem?_push]; exact if_pos trivial

theorem own_lt {w : World} {g : Gh} {mem : List AB} (hg : Good w g mem) {q b : Nat} {l : Option (Nat × Nat)} (h : g.st q = .own b l) : q < w.heap.size := by
  rcases Nat.lt_or_ge q w.heap.size with h1 | h1
  · exact h1
  · rw [hg.new q h1] at h; cases h

theorem Keep.alloc {w : World} {g : Gh} {mem : List AB} (hg : Good w g mem) {b c : Nat} (hb : lk mem b = .fut) (x : AB) (hx : x ≠ .fut) (o : Obj) :
    Keep w g mem (w.alloc o) (g.put w.heap.size b c) (setB mem b x) where
  ok := fun q hq => ⟨hq, fun i u hc => by rw [World.cell?_alloc_lt w o _ (hg.ok q hq).2]; exact hc⟩
  nofut := fun d hd => by rw [lk_setB]; split <;> assumption
  sv := fun d cells hd h => by
    have hne : d ≠ b := fun e => hd (e ▸ hb)
    rw [lk_setB, if_neg hne] at h
    exact ⟨⟨cells, h⟩, by simp [Gh.put, hne]⟩
  ar := fun d e n xs hd h => by
    have hne : d ≠ b := fun e => hd (e ▸ hb)
    rw [lk_setB, if_neg hne] at h
    refine ⟨n, xs, h, rfl, Nat.le_refl _, by simp [Gh.put, hne], by simp [Gh.put, hne], fun _ q l hq => ?_⟩
    have hlt := own_lt hg hq
    exact ⟨by simp [Gh.put, Nat.ne_of_lt hlt, hq], fun i u hc => by rw [World.cell?_alloc_lt w o _ hlt]; exact hc⟩

theorem Step.alloc {w : World} {g : Gh} {mem : List AB} (hm : Mem w g mem) {b c : Nat} (hb : lk mem b = .fut) (x : AB) (hx : x ≠ .fut) (cs : Array Value) (t : TypeId)
    (h : BR (w.alloc (.cells cs t)) (g.put w.heap.size b c) (setB mem b x) b x) : Step w g mem (w.alloc (.cells cs t)) (g.put w.heap.size b c) (setB mem b x) := by
  have K := Keep.alloc (c := c) hm.good hb x hx (.cells cs t)
  refine ⟨⟨⟨fun q hq => ?_, fun q hq => ?_, fun q d l hq => ?_⟩, fun d => ?_⟩, K, ⟨by simp, fun q hq hr => ?_, fun d hd => ?_, rfl, rfl⟩⟩
  · obtain ⟨h1, h2⟩ := hm.good.ok q hq
    exact ⟨by simp [Gh.put, Nat.ne_of_lt h2, h1], by simp; omega⟩
  · simp at hq
    simp [Gh.put, show q ≠ w.heap.size by omega, hm.good.new q (by omega)]
  · rw [lk_setB]
    by_cases hd : d = b
    · rw [if_pos hd]; exact hx
    · rw [if_neg hd]
      simp only [Gh.put] at hq
      split at hq
      · cases hq; exact absurd rfl hd
      · exact hm.good.nf q d l hq
  · rw [lk_setB]
    by_cases hd : d = b
    · rw [if_pos hd, hd]; exact h
    · rw [if_neg hd]
      refine (hm.rm d).keep K (by simp [Gh.put, hd]) (by simp [Gh.put, hd]) fun q l hq => ?_
      have hlt := own_lt hm.good hq
      exact ⟨by simp [Gh.put, Nat.ne_of_lt hlt, hq], heap_alloc_lt hlt⟩
  · exact ⟨heap_alloc_lt hq, by simp [Gh.put, Nat.ne_of_lt hq, hr], id⟩
  · have hne : d ≠ b := fun e => hd (e ▸ hb)
    simp [Gh.put, hne]

theorem Step.trans {w w1 w2 : World} {g g1 g2 : Gh} {mem mem1 mem2 : List AB} (h1 : Step w g mem w1 g1 mem1) (h2 : Step w1 g1 mem1 w2 g2 mem2)
    (K : Keep w g mem w2 g2 mem2) : Step w g mem w2 g2 mem2 := ⟨h2.all, K, h1.fr.trans h2.fr h1.keep.nofut⟩

theorem Keep.trans {w w1 w2 : World} {g g1 g2 : Gh} {mem mem1 mem2 : List AB} (h1 : Keep w g mem w1 g1 mem1) (h2 : Keep w1 g1 mem1 w2 g2 mem2) :
    Keep w g mem w2 g2 mem2 where
  ok := fun q hq => by
    obtain ⟨a1, a2⟩ := h1.ok q hq
    obtain ⟨b1, b2⟩ := h2.ok q a1
    exact ⟨b1, fun o u h => b2 o u (a2 o u h)⟩
  nofut := fun b h => h2.nofut b (h1.nofut b h)
  sv := fun b cells hb h => by
    obtain ⟨⟨c1, a1⟩, a2⟩ := h2.sv b cells (h1.nofut b hb) h
    obtain ⟨a3, a4⟩ := h1.sv b c1 hb a1
    exact ⟨a3, a2.trans a4⟩
  ar := fun b e n xs hb h => by
    obtain ⟨n1, xs1, a1, a2, a3, a4, a5, a6⟩ := h2.ar b e n xs (h1.nofut b hb) h
    obtain ⟨n0, xs0, b1, b2, b3, b4, b5, b6⟩ := h1.ar b e n1 xs1 hb a1
    refine ⟨n0, xs0, b1, b2.trans a2, Nat.le_trans b3 a3, a4.trans b4, a5.trans b5, fun hn q l hq => ?_⟩
    obtain ⟨c1, c2⟩ := b6 (by omega) q l hq
    obtain ⟨d1, d2⟩ := a6 (by omega) q l c1
    exact ⟨d1, fun o u hc => d2 o u (c2 o u hc)⟩

theorem Step.tr {w w1 w2 : World} {g g1 g2 : Gh} {mem mem1 mem2 : List AB} (h1 : Step w g mem w1 g1 mem1) (h2 : Step w1 g1 mem1 w2 g2 mem2) :
    Step w g mem w2 g2 mem2 := h1.trans h2 (h1.keep.trans h2.keep)

/-- A block is forgotten: what it owned stays as it is, and nobody says what it is. -/
theorem Step.drop {w : World} {g : Gh} {mem : List AB} (hm : Mem w g mem) (b : Nat) (hb : lk mem b ≠ .fut) : Step w g mem w g (setB mem b .gone) := by
  have K : Keep w g mem w g (setB mem b .gone) := by
    refine ⟨fun q hq => ⟨hq, fun _ _ h => h⟩, fun d hd => ?_, fun d cells hd h => ?_, fun d e n xs hd h => ?_⟩
    · rw [lk_setB]; split <;> first | exact AB.noConfusion | assumption
    · rw [lk_setB] at h
      split at h
      · cases h
      · exact ⟨⟨cells, h⟩, rfl⟩
    · rw [lk_setB] at h
      split at h
      · cases h
      · exact ⟨n, xs, h, rfl, Nat.le_refl _, rfl, rfl, fun _ q l hq => ⟨hq, fun _ _ h => h⟩⟩
  refine ⟨⟨⟨hm.good.ok, hm.good.new, fun q d l hq => K.nofut d (hm.good.nf q d l hq)⟩, fun d => ?_⟩, K, ⟨Nat.le_refl _, fun q _ hr => ⟨rfl, hr, id⟩, fun _ _ => ⟨rfl, rfl⟩, rfl, rfl⟩⟩
  rw [lk_setB]
  split
  · trivial
  · exact (hm.rm d).keep K rfl rfl fun q l hq => ⟨hq, rfl⟩

/-- A store into a cell of a variable. -/
theorem heap_setCell {w : World} {q o : Nat} {cs : Array Value} {t : TypeId} {f : Nat × Nat} {v : Value} (h : w.heap[q]? = some (.cells cs t f)) (r : Nat) :
    (w.setCell ⟨q, o, none⟩ v).heap[r]? = if r = q then some (.cells (cs.setIfInBounds o v) t f) else w.heap[r]? := by
  simp only [World.setCell, Array.getElem?_modify]
  by_cases hr : r = q
  · subst hr; rw [if_pos rfl, if_pos rfl, h]; rfl
  · rw [if_neg (fun e => hr e.symm), if_neg hr]

theorem Step.svStore {w : World} {g : Gh} {mem : List AB} (hm : Mem w g mem) {b q : Nat} {cells : List AV} (hb : lk mem b = .sv cells) (hq : g.loc b = some q)
    {o : Nat} {a : AV} {v : Value} (ho : o < cells.length) (h1 : v.oneCell' = true) (ha : RA w g mem a v) :
    (∃ u, w.cell? ⟨q, o, none⟩ = some u) ∧ w.frozen? ⟨q, o, none⟩ = false ∧ Step w g mem (w.setCell ⟨q, o, none⟩ v) g (setB mem b (.sv (cells.set o a))) := by
  have hB := hm.rm b
  rw [hb] at hB
  obtain ⟨q', cs, t, e1, e2, e3, e4, e5, e6⟩ := hB
  obtain rfl : q' = q := by rw [hq] at e1; cases e1; rfl
  have hsz : o < cs.size := by omega
  have other : ∀ r l d, g.st r = .own d l → r ≠ q' → (w.setCell ⟨q', o, none⟩ v).heap[r]? = w.heap[r]? := fun r l d _ hr => by rw [heap_setCell e3, if_neg hr]
  have K : Keep w g mem (w.setCell ⟨q', o, none⟩ v) g (setB mem b (.sv (cells.set o a))) := by
    refine ⟨fun r hr => ⟨hr, fun i u hc => ?_⟩, fun d hd => ?_, fun d cells' hd h => ?_, fun d e n xs hd h => ?_⟩
    · have hne : r ≠ q' := fun e => by have := (hm.good.ok r hr).1; rw [e, e2] at this; cases this
      rw [World.cell?_setCell_other w _ _ _ (fun e => hne (by cases e; rfl))]; exact hc
    · rw [lk_setB]; split <;> first | exact AB.noConfusion | assumption
    · rw [lk_setB] at h
      split at h
      · rename_i hd'; exact ⟨⟨cells, hd' ▸ hb⟩, rfl⟩
      · exact ⟨⟨cells', h⟩, rfl⟩
    · rw [lk_setB] at h
      split at h
      · cases h
      · rename_i hd'
        refine ⟨n, xs, h, rfl, Nat.le_refl _, rfl, rfl, fun _ r l hr => ⟨hr, fun i u hc => ?_⟩⟩
        have hne : r ≠ q' := fun e => by rw [e, e2] at hr; cases hr; exact hd' rfl
        rw [World.cell?_setCell_other w _ _ _ (fun e => hne (by cases e; rfl))]; exact hc
  have hcell : w.cell? ⟨q', o, none⟩ = cs[o]? := cell_of_block e3
  refine ⟨⟨_, hcell.trans (Array.getElem?_eq_getElem hsz)⟩, by simp [World.frozen?, e3], ⟨⟨fun r hr => ?_, fun r hr => ?_, fun r d l hr => K.nofut d (hm.good.nf r d l hr)⟩, fun d => ?_⟩, K, ⟨by simp, fun r hr hs => ⟨?_, hs, id⟩, fun _ _ => ⟨rfl, rfl⟩, rfl, rfl⟩⟩
  · rw [World.size_setCell]; exact hm.good.ok r hr
  · rw [World.size_setCell] at hr; exact hm.good.new r hr
  · rw [lk_setB]
    by_cases hd : d = b
    · rw [if_pos hd, hd]
      refine ⟨q', _, t, hq, e2, by rw [heap_setCell e3, if_pos rfl], by simp [e4], fun u hu => ?_, fun j c u hj hu => ?_⟩
      · simp only [Array.toList_setIfInBounds] at hu
        rcases List.mem_or_eq_of_mem_set hu with h | h
        · exact e5 u h
        · rw [h]; exact h1
      · rw [List.getElem?_set] at hj
        rw [Array.getElem?_setIfInBounds] at hu
        by_cases hjo : o = j
        · rw [if_pos hjo] at hj hu
          subst hjo
          rw [if_pos ho] at hj
          rw [if_pos hsz] at hu
          cases hj; cases hu
          exact ha.keep K
        · rw [if_neg hjo] at hj hu
          exact (e6 j c u hj hu).keep K
    · rw [if_neg hd]
      refine (hm.rm d).keep K rfl rfl fun r l hr => ⟨hr, ?_⟩
      rw [heap_setCell e3, if_neg]
      intro e
      rw [e, e2] at hr; cases hr; exact hd rfl
  · rw [heap_setCell e3, if_neg]
    intro e
    rw [e, e2] at hs; cases hs

/-- Scalars own nothing. -/
def flatP : PV → Bool
  | .ls _ => false
  | _ => true

theorem RO.flat {w : World} {ok : Nat → Prop} {p : PV} {v : Value} (h : RO w ok p v) (hf : flatP p = true) {w' : World} {st : Nat → St} {b : Nat} {l : Nat × Nat} : OW w' st b l p v := by
  cases h with
  | int k n => exact .int _ k n
  | bool b => exact .bool _ b
  | str s => exact .str _ s
  | nil a c => simp [flatP] at hf
  | ls e xs q o c vs => simp [flatP] at hf

theorem OW.flat {w : World} {st : Nat → St} {b : Nat} {l : Nat × Nat} {p : PV} {v : Value} (h : OW w st b l p v) (hf : flatP p = true) {w' : World} {st' : Nat → St} {b' : Nat} {l' : Nat × Nat} : OW w' st' b' l' p v := by
  cases h with
  | int l k n => exact .int _ k n
  | bool l b => exact .bool _ b
  | str l s => exact .str _ s
  | nil l a c => simp [flatP] at hf
  | ls l e xs q c cs t vs => simp [flatP] at hf

/-- The ghost behind a gift: block c becomes the property of block b, held from the cell l. -/
def Gh.mv (g : Gh) (c b : Nat) (l : Nat × Nat) : Gh :=
  { g with st := fun q => match g.st q with
      | .ro => .ro
      | .own d m => if d = c then .own b (some (m.getD l)) else .own d m }

theorem mv_ro {g : Gh} {c b : Nat} {l : Nat × Nat} {q : Nat} (h : g.st q = .ro) : (g.mv c b l).st q = .ro := by simp [Gh.mv, h]
theorem mv_other {g : Gh} {c b : Nat} {l : Nat × Nat} {q d : Nat} {m : Option (Nat × Nat)} (h : g.st q = .own d m) (hd : d ≠ c) : (g.mv c b l).st q = .own d m := by simp [Gh.mv, h, hd]
theorem mv_top {g : Gh} {c b : Nat} {l : Nat × Nat} {q : Nat} (h : g.st q = .own c none) : (g.mv c b l).st q = .own b (some l) := by simp [Gh.mv, h]
theorem mv_in {g : Gh} {c b : Nat} {l : Nat × Nat} {q : Nat} {m : Nat × Nat} (h : g.st q = .own c (some m)) : (g.mv c b l).st q = .own b (some m) := by simp [Gh.mv, h]
theorem mv_inv {g : Gh} {c b : Nat} {l : Nat × Nat} {q d : Nat} {m : Option (Nat × Nat)} (h : (g.mv c b l).st q = .own d m) : (g.st q = .own d m ∧ d ≠ c) ∨ (d = b ∧ ∃ m', g.st q = .own c m') := by
  cases h0 : g.st q with
  | ro => rw [mv_ro h0] at h; cases h
  | own d' m' =>
    by_cases hd : d' = c
    · subst hd
      simp [Gh.mv, h0] at h
      exact .inr ⟨h.1.symm, m', rfl⟩
    · rw [mv_other h0 hd] at h
      cases h
      exact .inl ⟨rfl, hd⟩

theorem Step.give {w : World} {g : Gh} {mem : List AB} (hm : Mem w g mem) {b c e n : Nat} {xs : List (List PV)} (hc : lk mem c = .ar e n xs) (hb : lk mem b ≠ .fut) (hne : b ≠ c) (l : Nat × Nat) :
    Step w g mem w (g.mv c b l) (setB mem c .gone) ∧ OW w (g.mv c b l).st b l (.ls xs) (hdr g c xs.length) := by
  have K : Keep w g mem w (g.mv c b l) (setB mem c .gone) := by
    refine ⟨fun q hq => ⟨hq, fun _ _ h => h⟩, fun d hd => ?_, fun d cells hd h => ?_, fun d e n xs hd h => ?_⟩
    · rw [lk_setB]; split <;> first | exact AB.noConfusion | assumption
    · rw [lk_setB] at h
      split at h
      · cases h
      · exact ⟨⟨cells, h⟩, rfl⟩
    · rw [lk_setB] at h
      split at h
      · cases h
      · rename_i hd'
        exact ⟨n, xs, h, rfl, Nat.le_refl _, rfl, rfl, fun _ q m hq => ⟨mv_other hq hd', fun _ _ h => h⟩⟩
  constructor
  · refine ⟨⟨⟨fun q hq => ⟨mv_ro (hm.good.ok q hq).1, (hm.good.ok q hq).2⟩, fun q hq => mv_ro (hm.good.new q hq), fun q d m hq => ?_⟩, fun d => ?_⟩, K, ⟨Nat.le_refl _, fun q _ hr => ⟨rfl, mv_ro hr, id⟩, fun _ _ => ⟨rfl, rfl⟩, rfl, rfl⟩⟩
    · apply K.nofut
      rcases mv_inv hq with ⟨h1, _⟩ | ⟨h1, _⟩
      · exact hm.good.nf q d m h1
      · rw [h1]; exact hb
    · rw [lk_setB]
      by_cases hd : d = c
      · rw [if_pos hd]; trivial
      · rw [if_neg hd]
        exact (hm.rm d).keep K rfl rfl fun q m hq => ⟨mv_other hq hd, rfl⟩
  · have hB := hm.rm c
    rw [hc] at hB
    rcases hB with ⟨h1, h2⟩ | ⟨q, cs, t, h1, h2, h3, h4, h5, h6, h7, h8, h9⟩
    · rw [h2]; simp only [hdr, h1]; exact .nil _ _ _
    · simp only [hdr, h1]
      have h10 : ∀ i x j p, xs[i]? = some x → x[j]? = some p → cs[i * e + j]? = some (cs.getD (i * e + j) undef) := fun i x j p hi hj => by
        obtain ⟨v, hv, _⟩ := h9 i x j p hi hj
        simp [Array.getD_eq_getD_getElem?, hv]
      refine .ls l e xs q (g.cap c) cs t (fun i j => cs.getD (i * e + j) undef) (mv_top h2) h3 h4 h5 h6 h7 h8 h10 (fun i x j p hi hj => ?_)
      obtain ⟨v, hv, ho⟩ := h9 i x j p hi hj
      have : cs.getD (i * e + j) undef = v := by simp [Array.getD_eq_getD_getElem?, hv]
      rw [this]
      exact ho.keep fun q m hq => ⟨mv_in hq, rfl⟩

theorem mul_lt_of {i j n e : Nat} (hi : i < n) (hj : j < e) : i * e + j < n * e := by
  have h1 : i * e + e ≤ n * e := by rw [← Nat.succ_mul]; exact Nat.mul_le_mul_right _ hi
  omega

theorem mul_inj {i j i' j' e : Nat} (hj : j < e) (hj' : j' < e) (h : i * e + j = i' * e + j') : i = i' ∧ j = j' := by
  have h0 : 0 < e := by omega
  have a : (i * e + j) / e = i := by rw [Nat.mul_comm, Nat.mul_add_div h0, Nat.div_eq_of_lt hj]; omega
  have b : (i' * e + j') / e = i' := by rw [Nat.mul_comm, Nat.mul_add_div h0, Nat.div_eq_of_lt hj']; omega
  have : i = i' := by rw [← a, ← b, h]
  subst this
  exact ⟨rfl, by omega⟩

/-- A store into a cell of an element. -/
theorem Step.elStore {w : World} {g : Gh} {mem : List AB} (hm : Mem w g mem) {b q e n i off : Nat} {xs : List (List PV)} {x : List PV} (hb : lk mem b = .ar e n xs) (hq : g.loc b = some q)
    (hi : xs[i]? = some x) (ho : off < x.length) {p : PV} {v : Value} (ha : OW w g.st b (q, i * e + off) p v) :
    (∃ u, w.cell? ⟨q, i * e + off, none⟩ = some u) ∧ w.frozen? ⟨q, i * e + off, none⟩ = false ∧
      Step w g mem (w.setCell ⟨q, i * e + off, none⟩ v) g (setB mem b (.ar e (n + 1) (xs.set i (x.set off p)))) := by
  have hB := hm.rm b
  rw [hb] at hB
  rcases hB with ⟨h1, _⟩ | ⟨q', cs, t, e1, e2, e3, e4, e5, e6, e7, e8, e9⟩
  · rw [h1] at hq; cases hq
  obtain rfl : q' = q := by rw [hq] at e1; cases e1; rfl
  have hil : i < xs.length := by
    rcases Nat.lt_or_ge i xs.length with h | h
    · exact h
    · rw [List.getElem?_eq_none h] at hi; cases hi
  have hxl := e8 i x hi
  have hsz : i * e + off < cs.size := by
    rw [e4]; exact Nat.lt_of_lt_of_le (mul_lt_of hil (by omega)) (Nat.mul_le_mul_right _ e5)
  have K : Keep w g mem (w.setCell ⟨q', i * e + off, none⟩ v) g (setB mem b (.ar e (n + 1) (xs.set i (x.set off p)))) := by
    refine ⟨fun r hr => ⟨hr, fun i u hc => ?_⟩, fun d hd => ?_, fun d cells' hd h => ?_, fun d e' n' xs' hd h => ?_⟩
    · have hne : r ≠ q' := fun e => by have := (hm.good.ok r hr).1; rw [e, e2] at this; cases this
      rw [World.cell?_setCell_other w _ _ _ (fun e => hne (by cases e; rfl))]; exact hc
    · rw [lk_setB]; split <;> first | exact AB.noConfusion | assumption
    · rw [lk_setB] at h
      split at h
      · cases h
      · exact ⟨⟨cells', h⟩, rfl⟩
    · rw [lk_setB] at h
      split at h
      · rename_i hd'
        cases h
        exact ⟨n, xs, hd' ▸ hb, by simp, by omega, rfl, rfl, fun h => by omega⟩
      · rename_i hd'
        refine ⟨n', xs', h, rfl, Nat.le_refl _, rfl, rfl, fun _ r l hr => ⟨hr, fun i u hc => ?_⟩⟩
        have hne : r ≠ q' := fun e => by rw [e, e2] at hr; cases hr; exact hd' rfl
        rw [World.cell?_setCell_other w _ _ _ (fun e => hne (by cases e; rfl))]; exact hc
  have hcell : w.cell? ⟨q', i * e + off, none⟩ = cs[i * e + off]? := cell_of_block e3
  have hnest : ∀ (r : Nat) (m : Nat × Nat), g.st r = .own b (some m) → g.st r = .own b (some m) ∧ (w.setCell ⟨q', i * e + off, none⟩ v).heap[r]? = w.heap[r]? := fun r m hr => ⟨hr, by
    rw [heap_setCell e3, if_neg]; intro e; rw [e, e2] at hr; cases hr⟩
  refine ⟨⟨_, hcell.trans (Array.getElem?_eq_getElem hsz)⟩, by simp [World.frozen?, e3], ⟨⟨fun r hr => ?_, fun r hr => ?_, fun r d l hr => K.nofut d (hm.good.nf r d l hr)⟩, fun d => ?_⟩, K, ⟨by simp, fun r hr hs => ⟨?_, hs, id⟩, fun _ _ => ⟨rfl, rfl⟩, rfl, rfl⟩⟩
  · rw [World.size_setCell]; exact hm.good.ok r hr
  · rw [World.size_setCell] at hr; exact hm.good.new r hr
  · rw [lk_setB]
    by_cases hd : d = b
    · rw [if_pos hd, hd]
      refine .inr ⟨q', _, t, hq, e2, by rw [heap_setCell e3, if_pos rfl], by simp [e4], by simpa using e5, e6, fun u hu => ?_, fun i' x' hx' => ?_, fun i' x' j p' hx' hj => ?_⟩
      · simp only [Array.toList_setIfInBounds] at hu
        rcases List.mem_or_eq_of_mem_set hu with h | h
        · exact e7 u h
        · rw [h]; exact ha.oneCell
      · rw [List.getElem?_set] at hx'
        by_cases hii : i = i'
        · rw [if_pos hii, if_pos hil] at hx'; cases hx'; simp [hxl]
        · rw [if_neg hii] at hx'; exact e8 i' x' hx'
      · rw [Array.getElem?_setIfInBounds]
        rw [List.getElem?_set] at hx'
        by_cases hii : i = i'
        · subst hii
          rw [if_pos rfl, if_pos hil] at hx'
          cases hx'
          rw [List.getElem?_set] at hj
          by_cases hjj : off = j
          · subst hjj
            rw [if_pos rfl, if_pos ho] at hj
            cases hj
            rw [if_pos rfl, if_pos hsz]
            exact ⟨v, rfl, ha.keep hnest⟩
          · rw [if_neg hjj] at hj
            rw [if_neg (by omega)]
            obtain ⟨u, hu, how⟩ := e9 i x j p' hi hj
            exact ⟨u, hu, how.keep hnest⟩
        · rw [if_neg hii] at hx'
          have hjl : j < e := by
            have := e8 i' x' hx'
            rcases Nat.lt_or_ge j x'.length with h | h
            · omega
            · rw [List.getElem?_eq_none h] at hj; cases hj
          rw [if_neg (fun h => hii (mul_inj (by omega) hjl h).1)]
          obtain ⟨u, hu, how⟩ := e9 i' x' j p' hx' hj
          exact ⟨u, hu, how.keep hnest⟩
    · rw [if_neg hd]
      refine (hm.rm d).keep K rfl rfl fun r l hr => ⟨hr, ?_⟩
      rw [heap_setCell e3, if_neg]
      intro e
      rw [e, e2] at hr; cases hr; exact hd rfl
  · rw [heap_setCell e3, if_neg]
    intro e
    rw [e, e2] at hs; cases hs

end Go.Proofs.Ytfeiaibdnnhlaaa
