import Derived.Test.Ytfeiaibdnnhlaaap
/- The abstract interpreter, part 16b: what a step finds with less knowledge, it finds with more. -/
set_option linter.unusedSectionVars false
set_option linter.unusedVariables false
set_option linter.unusedSimpArgs false
namespace Go.Proofs.Ytfeiaibdnnhlaaa

def OLe {α : Type} (o o' : Option α) : Prop := ∀ a, o = some a → o' = some a

theorem OLe.refl {α : Type} (o : Option α) : OLe o o := fun _ h => h
theorem OLe.none {α : Type} (o : Option α) : OLe none o := fun _ h => by cases h
theorem OLe.bi {α β : Type} {o o' : Option α} {f f' : α → Option β} (h : OLe o o') (hf : ∀ a, OLe (f a) (f' a)) : OLe (bi o f) (bi o' f') := by
  intro r hr
  obtain ⟨a, h1, h2⟩ := bi_eq hr
  rw [h a h1]
  exact hf a r h2
theorem OLe.ite {α : Type} {c : Prop} [Decidable c] {o o' u u' : Option α} (h : OLe o o') (h' : OLe u u') : OLe (if c then o else u) (if c then o' else u') := by
  split
  · exact h
  · exact h'
/-- A test that may only become true. -/
theorem OLe.test {α : Type} {b b' : Bool} {o o' : Option α} (hb : b = true → b' = true) (h : OLe o o') : OLe (if b then o else Option.none) (if b' then o' else Option.none) := by
  cases b with
  | false => exact OLe.none _
  | true => rw [hb rfl]; exact h

def Rd.le (ρ ρ' : Rd) : Prop := (∀ i, OLe (ρ.t i) (ρ'.t i)) ∧ (∀ b, OLe (ρ.m b) (ρ'.m b))

section
variable {ρ ρ' : Rd} (h : ρ.le ρ')
include h

theorem aeval_le (x : Operand) : OLe (aeval ρ x) (aeval ρ' x) := by
  cases x with
  | tmp t => exact h.1 t
  | const v => exact OLe.refl _
  | func f => exact OLe.refl _
  | global g => exact OLe.refl _

theorem aevals_le : ∀ (l : List Operand), OLe (aevals ρ l) (aevals ρ' l)
  | [] => OLe.refl _
  | x :: l => OLe.bi (aeval_le h x) fun _ => OLe.bi (aevals_le l) fun _ => OLe.refl _

/-- A function of one block. -/
theorem m_le {α : Type} (b : Nat) (f : Option AB → Option α) (hf : f Option.none = Option.none) : OLe (f (ρ.m b)) (f (ρ'.m b)) := by
  cases hm : ρ.m b with
  | none => rw [hf]; exact OLe.none _
  | some x => rw [h.2 b x hm]; exact OLe.refl _

theorem stampIs_le (b n : Nat) : stampIs ρ b n = true → stampIs ρ' b n = true := by
  unfold stampIs
  cases hm : ρ.m b with
  | none => intro h; cases h
  | some x => rw [h.2 b x hm]; exact id

theorem aload_le (sz : Option Nat) (a : AV) : OLe (aload ρ sz a) (aload ρ' sz a) := by
  cases a with
  | ref b off => exact m_le h b (fun o => match o with | some (.sv cells) => pickC sz cells off | _ => Option.none) rfl
  | el b i off => exact m_le h b (fun o => match o with | some (.ar _ n xs) => (match xs[i]? with | some x => pickC sz (x.map (pvw b n)) off | none => Option.none) | _ => Option.none) rfl
  | vel s cells off =>
    cases s with
    | none => exact OLe.refl _
    | some p => exact OLe.test (stampIs_le h _ _) (OLe.refl _)
  | _ => exact OLe.refl _

theorem toPV_le (a : AV) : OLe (toPV ρ a) (toPV ρ' a) := by
  cases a with
  | d p =>
    cases p with
    | ls xs => cases xs <;> exact OLe.refl _
    | _ => exact OLe.refl _
  | sl c => exact m_le h c (fun o => match o with | some (.ar _ _ xs) => some (PV.ls xs, some c) | _ => Option.none) rfl
  | _ => exact OLe.refl _

theorem elSt_le (b i e : Nat) : ∀ (as : List AV) (n : Nat) (xs : List (List PV)) (x : List PV) (off : Nat) (used : List Nat), OLe (elSt ρ b i e n xs x off used as) (elSt ρ' b i e n xs x off used as)
  | [], _, _, _, _, _ => OLe.refl _
  | a :: as, n, xs, x, off, used => by
    intro r hr
    unfold elSt at hr ⊢
    cases hp : toPV ρ a with
    | none => rw [hp] at hr; cases hr
    | some p =>
      rw [toPV_le h a p hp]
      rw [hp] at hr
      obtain ⟨p, c⟩ := p
      simp only at hr ⊢
      split at hr
      · cases hr
      · rename_i hc
        rw [if_neg hc]
        cases hw : elSt ρ b i e (n + 1) (xs.set i (x.set off p)) (x.set off p) (off + 1) (c.toList ++ used) as with
        | none => rw [hw] at hr; cases hr
        | some ws => rw [elSt_le b i e as _ _ _ _ _ ws hw]; rw [hw] at hr; exact hr

theorem astore_le (size : Nat) (a x : AV) : OLe (astore ρ size a x) (astore ρ' size a x) := by
  unfold astore
  refine OLe.ite ?_ (OLe.refl _)
  cases a with
  | ref b off => exact m_le h b (fun o => match o with | some (.sv cells) => (if off + size ≤ cells.length then some [(b, AB.sv (splice cells off (acells x)))] else Option.none) | _ => Option.none) rfl
  | el b i off =>
    simp only
    cases hm : ρ.m b with
    | none => exact OLe.none _
    | some y =>
      rw [h.2 b y hm]
      cases y with
      | ar e n xs =>
        simp only
        cases xs[i]? with
        | none => exact OLe.refl _
        | some x0 => exact OLe.ite (elSt_le h _ _ _ _ _ _ _ _ _) (OLe.refl _)
      | _ => exact OLe.refl _
  | _ => exact OLe.refl _

theorem alist_le (a : AV) : OLe (alist ρ a) (alist ρ' a) := by
  cases a with
  | sl b => exact m_le h b (fun o => match o with | some (.ar _ _ xs) => some xs | _ => Option.none) rfl
  | tv b n xs => exact OLe.test (stampIs_le h _ _) (OLe.refl _)
  | d p => cases p <;> exact OLe.refl _
  | _ => exact OLe.refl _

theorem aindexAddr_le (size : Nat) (a : AV) (i : Int) : OLe (aindexAddr ρ size a i) (aindexAddr ρ' size a i) := by
  cases a with
  | sl b => exact m_le h b (fun o => match o with | some (.ar e _ xs) => (if e = size then if 0 ≤ i ∧ i < xs.length then some (AV.el b i.toNat 0) else Option.none else Option.none) | _ => Option.none) rfl
  | tv b n xs => exact OLe.test (stampIs_le h _ _) (OLe.refl _)
  | d p => cases p <;> exact OLe.refl _
  | _ => exact OLe.refl _

theorem aslice_le (size : Nat) (a : AV) (lo hi : Option Int) : OLe (aslice ρ size a lo hi) (aslice ρ' size a lo hi) := by
  cases a with
  | sl b =>
    simp only [aslice]
    cases hm : ρ.m b with
    | none => exact OLe.none _
    | some y => rw [h.2 b y hm]; exact OLe.refl _
  | tv b n xs =>
    simp only [aslice]
    refine OLe.test (fun hb => ?_) (OLe.refl _)
    simp only [Bool.and_eq_true] at hb ⊢
    exact ⟨stampIs_le h _ _ hb.1, hb.2⟩
  | d p => cases p <;> exact OLe.refl _
  | _ => exact OLe.refl _

theorem alive_le (a : AV) : alive ρ a = true → alive ρ' a = true := by
  cases a with
  | ref b o =>
    simp only [alive]
    cases hm : ρ.m b with
    | none => intro h; cases h
    | some x => rw [h.2 b x hm]; exact id
  | el b i o =>
    simp only [alive]
    cases hm : ρ.m b with
    | none => intro h; cases h
    | some x => rw [h.2 b x hm]; exact id
  | vel s c o =>
    cases s with
    | none => exact id
    | some p => exact stampIs_le h _ _
  | _ => exact id

theorem aconvert_le (tt : TypeId → Option TI) (s t : TypeId) (x : AV) : OLe (aconvert tt ρ s t x) (aconvert tt ρ' s t x) := by
  have key : ∀ (i : TI) (u : UD), OLe
      (match (motive := UD → AV → Option PV) u, x with
        | .int k, .d (.int _ n) => some (.int k (k.wrap n))
        | .string, .d (.int _ n) => match i.ud with
          | .int _ => some (.str (Utf8.encode n))
          | _ => none
        | .string, .d (.str s) => match i.ud with
          | .string => some (.str s)
          | _ => none
        | .string, a => match i.ud with
          | .slice e => match tt e with
            | some k => match k.ud with
              | .int .u8 => match alist ρ a with
                | some xs => match bytesOf xs with
                  | some l => some (.str ⟨l.toArray⟩)
                  | none => none
                | none => none
              | _ => none
            | none => none
          | _ => none
        | _, _ => none)
      (match (motive := UD → AV → Option PV) u, x with
        | .int k, .d (.int _ n) => some (.int k (k.wrap n))
        | .string, .d (.int _ n) => match i.ud with
          | .int _ => some (.str (Utf8.encode n))
          | _ => none
        | .string, .d (.str s) => match i.ud with
          | .string => some (.str s)
          | _ => none
        | .string, a => match i.ud with
          | .slice e => match tt e with
            | some k => match k.ud with
              | .int .u8 => match alist ρ' a with
                | some xs => match bytesOf xs with
                  | some l => some (.str ⟨l.toArray⟩)
                  | none => none
                | none => none
              | _ => none
            | none => none
          | _ => none
        | _, _ => none) := by
    intro i u
    have fin : ∀ a, OLe (match i.ud with
          | .slice e => match tt e with
            | some k => match k.ud with
              | .int .u8 => match alist ρ a with
                | some xs => match bytesOf xs with
                  | some l => some (PV.str ⟨l.toArray⟩)
                  | none => none
                | none => none
              | _ => none
            | none => none
          | _ => none) (match i.ud with
          | .slice e => match tt e with
            | some k => match k.ud with
              | .int .u8 => match alist ρ' a with
                | some xs => match bytesOf xs with
                  | some l => some (PV.str ⟨l.toArray⟩)
                  | none => none
                | none => none
              | _ => none
            | none => none
          | _ => none) := by
      intro a
      cases i.ud with
      | slice e =>
        simp only
        cases tt e with
        | none => exact OLe.refl _
        | some k =>
          simp only
          cases k.ud with
          | int q =>
            cases q with
            | u8 =>
              simp only
              cases hx : alist ρ a with
              | none => exact OLe.none _
              | some xs => rw [alist_le h a xs hx]; exact OLe.refl _
            | _ => exact OLe.refl _
          | _ => exact OLe.refl _
      | _ => exact OLe.refl _
    cases u with
    | string =>
      cases x with
      | d p =>
        cases p with
        | int k n => exact OLe.refl _
        | str s => exact OLe.refl _
        | bool b => exact fin (.d (.bool b))
        | ls l => exact fin (.d (.ls l))
      | undef => exact fin .undef
      | non => exact fin .non
      | nil => exact fin .nil
      | tv b g xs => exact fin (.tv b g xs)
      | sl b => exact fin (.sl b)
      | ref b o => exact fin (.ref b o)
      | el b i o => exact fin (.el b i o)
      | vel s c o => exact fin (.vel s c o)
      | agg cs => exact fin (.agg cs)
      | tup cs => exact fin (.tup cs)
      | fn f cs => exact fin (.fn f cs)
    | int k =>
      cases x with
      | d p => cases p <;> exact OLe.refl _
      | _ => exact OLe.refl _
    | _ => exact OLe.refl _
  unfold aconvert
  cases tt s with
  | none => exact OLe.refl _
  | some i =>
    cases tt t with
    | none => exact OLe.refl _
    | some j => exact key i j.ud

theorem toPVs_le : ∀ (as : List AV) (used : List Nat), OLe (toPVs ρ used as) (toPVs ρ' used as)
  | [], _ => OLe.refl _
  | a :: as, used => by
    intro r hr
    unfold toPVs at hr ⊢
    cases hp : toPV ρ a with
    | none => rw [hp] at hr; cases hr
    | some p =>
      rw [toPV_le h a p hp]
      rw [hp] at hr
      obtain ⟨p, c⟩ := p
      simp only at hr ⊢
      split at hr
      · cases hr
      · rename_i hc
        rw [if_neg hc]
        cases hw : toPVs ρ (c.toList ++ used) as with
        | none => rw [hw] at hr; cases hr
        | some ws => rw [toPVs_le as _ ws hw]; rw [hw] at hr; exact hr

theorem aappend_le (nx : Nat) (i : TI) (s x : AV) : OLe (aappend ρ nx i s x) (aappend ρ' nx i s x) := by
  cases s with
  | nil =>
    simp only [aappend]
    cases hx : alist ρ x with
    | none => exact OLe.none _
    | some ys => rw [alist_le h _ ys hx]; exact OLe.refl _
  | sl b =>
    simp only [aappend]
    cases hm : ρ.m b with
    | none => exact OLe.none _
    | some y =>
      rw [h.2 b y hm]
      cases y with
      | ar e n xs =>
        simp only
        cases hx : alist ρ x with
        | none => exact OLe.none _
        | some ys => rw [alist_le h _ ys hx]; exact OLe.refl _
      | _ => exact OLe.refl _
  | _ => exact OLe.refl _

theorem aparts_le : ∀ (l : List (Nat × Operand)), OLe (aparts ρ l) (aparts ρ' l)
  | [] => OLe.refl _
  | (i, x) :: l => by
    intro r hr
    unfold aparts at hr ⊢
    cases hx : aeval ρ x with
    | none => rw [hx] at hr; cases hr
    | some a =>
      rw [aeval_le h x a hx]
      rw [hx] at hr
      simp only at hr ⊢
      cases hl : aparts ρ l with
      | none => rw [hl] at hr; cases hr
      | some q => rw [aparts_le l q hl]; rw [hl] at hr; exact hr

mutual
theorem outAV_le (L : List Nat) : ∀ (a : AV), OLe (outAV ρ L a) (outAV ρ' L a)
  | .undef => OLe.refl _
  | .non => OLe.refl _
  | .nil => OLe.refl _
  | .d _ => OLe.refl _
  | .tv b n xs => by
    simp only [outAV]
    exact OLe.ite (OLe.refl _) (OLe.test (stampIs_le h _ _) (OLe.refl _))
  | .sl b => by
    simp only [outAV]
    exact OLe.ite (OLe.refl _) (m_le h b (fun o => match o with | some (.ar _ _ xs) => some (AV.d (.ls xs)) | _ => Option.none) rfl)
  | .ref _ _ => OLe.refl _
  | .el _ _ _ => OLe.refl _
  | .vel none _ _ => OLe.refl _
  | .vel (some (b, n)) cells o => by
    simp only [outAV]
    exact OLe.ite (OLe.refl _) (OLe.test (stampIs_le h _ _) (OLe.refl _))
  | .agg cs => by simp only [outAV]; exact OLe.bi (outAVs_le L cs) fun _ => OLe.refl _
  | .tup cs => by simp only [outAV]; exact OLe.bi (outAVs_le L cs) fun _ => OLe.refl _
  | .fn f cs => by simp only [outAV]; exact OLe.bi (outAVs_le L cs) fun _ => OLe.refl _
theorem outAVs_le (L : List Nat) : ∀ (as : List AV), OLe (outAVs ρ L as) (outAVs ρ' L as)
  | [] => OLe.refl _
  | a :: l => by simp only [outAVs]; exact OLe.bi (outAV_le L a) fun _ => OLe.bi (outAVs_le L l) fun _ => OLe.refl _
end

theorem outAB_le (L : List Nat) (b : Nat) : OLe (outAB ρ L b) (outAB ρ' L b) := by
  unfold outAB
  cases hm : ρ.m b with
  | none => exact OLe.none _
  | some x =>
    rw [h.2 b x hm]
    cases x with
    | sv cells => exact OLe.bi (outAVs_le h L cells) fun _ => OLe.refl _
    | _ => exact OLe.refl _

theorem omap_le {α β : Type} {f f' : α → Option β} (hf : ∀ a, OLe (f a) (f' a)) : ∀ (l : List α), OLe (omap f l) (omap f' l)
  | [] => OLe.refl _
  | a :: l => by
    intro r hr
    unfold omap at hr ⊢
    cases ha : f a with
    | none => rw [ha] at hr; cases hr
    | some b =>
      rw [hf a b ha]
      rw [ha] at hr
      simp only at hr ⊢
      cases hl : omap f l with
      | none => rw [hl] at hr; cases hr
      | some q => rw [omap_le hf l q hl]; rw [hl] at hr; exact hr

theorem inAB_le (pure : Bool) (L : List Nat) (nx k : Nat) (x : AB) : OLe (inAB ρ pure L nx k x) (inAB ρ' pure L nx k x) := by
  cases x with
  | fut => exact OLe.refl _
  | gone => exact OLe.refl _
  | sv cells =>
    simp only [inAB]
    refine OLe.bi (OLe.refl _) fun cs => ?_
    cases L[k]? with
    | none => exact OLe.refl _
    | some b => exact m_le h b (fun o => match o with | some (.sv _) => some (AB.sv cs) | _ => Option.none) rfl
  | ar e n xs =>
    simp only [inAB]
    cases L[k]? with
    | none => exact OLe.refl _
    | some b => exact m_le h b (fun o => match o with | some (.ar e0 n0 xs0) => (if e = e0 ∧ xs0.length = xs.length then some (AB.ar e (n0 + 1) xs) else Option.none) | _ => Option.none) rfl

theorem inABs_le (pure : Bool) (L : List Nat) (nx : Nat) : ∀ (l : List AB) (k : Nat), OLe (inABs ρ pure L nx k l) (inABs ρ' pure L nx k l)
  | [], _ => OLe.refl _
  | x :: l, k => by
    simp only [inABs]
    exact OLe.bi (inAB_le h pure L nx k x) fun _ => OLe.bi (inABs_le pure L nx l (k + 1)) fun _ => OLe.refl _

theorem CallR_le {P : Program} {f : FuncId} {nx : Nat} {as : List AV} {av : AV} {ws : List (Nat × AB)} (hc : CallR P f ρ nx as av ws) : CallR P f ρ' nx as av ws := by
  obtain ⟨pure, L, as', memL, res, memR, h1, h2, h3, h4, h5⟩ := hc
  refine ⟨pure, L, as', memL, res, memR, ?_, h2, h3, h4, inABs_le h pure L nx _ _ _ h5⟩
  rcases h1 with h1 | ⟨a1, a2, a3, a4⟩
  · exact .inl h1
  · exact .inr ⟨a1, a2, outAVs_le h L _ _ a3, omap_le h (fun b => outAB_le h L b) _ _ a4⟩

theorem guardV_le (ops : Array Oper) (j : Nat) : OLe (guardV ρ ops j) (guardV ρ' ops j) :=
  OLe.bi (OLe.refl _) fun t => OLe.bi (h.1 t) fun _ => OLe.refl _

theorem astep_le (tt : TypeId → Option TI) (nx : Nat) (op : Op) : OLe (astep tt ρ nx op) (astep tt ρ' nx op) := by
  cases op with
  | move x => exact OLe.bi (aeval_le h x) fun _ => OLe.refl _
  | assign x => exact OLe.bi (aeval_le h x) fun _ => OLe.refl _
  | pick c a b =>
    refine OLe.bi (aeval_le h c) fun c => OLe.bi (OLe.refl _) fun t => OLe.bi ?_ fun _ => OLe.refl _
    exact OLe.ite (aeval_le h a) (aeval_le h b)
  | alloc t => exact OLe.refl _
  | box t x => exact OLe.bi (aeval_le h x) fun _ => OLe.refl _
  | load t x => exact OLe.bi (OLe.refl _) fun i => OLe.bi (OLe.refl _) fun sz => OLe.bi (aeval_le h x) fun a => OLe.bi (aload_le h sz a) fun _ => OLe.refl _
  | store t x y => exact OLe.bi (OLe.refl _) fun i => OLe.bi (aeval_le h x) fun a => OLe.bi (aeval_le h y) fun v => OLe.bi (astore_le h _ a v) fun _ => OLe.refl _
  | nilCheck x => exact OLe.bi (aeval_le h x) fun a => OLe.test (alive_le h a) (OLe.refl _)
  | binOp op t x y u => exact OLe.bi (aeval_le h x) fun _ => OLe.bi (aeval_le h y) fun _ => OLe.refl _
  | unOp op t x => exact OLe.bi (aeval_le h x) fun _ => OLe.refl _
  | convert s t x => exact OLe.bi (aeval_le h x) fun a => OLe.bi (aconvert_le h tt s t a) fun _ => OLe.refl _
  | extract x i => exact OLe.bi (aeval_le h x) fun _ => OLe.refl _
  | field s x f =>
    refine OLe.bi (OLe.refl _) fun i => ?_
    cases i.ud with
    | struct fs => exact OLe.bi (OLe.refl _) fun p => OLe.bi (OLe.refl _) fun j => OLe.bi (aeval_le h x) fun _ => OLe.refl _
    | _ => exact OLe.refl _
  | fieldAddr s x f =>
    refine OLe.bi (OLe.refl _) fun i => ?_
    cases i.ud with
    | struct fs =>
      refine OLe.bi (OLe.refl _) fun p => OLe.bi (OLe.refl _) fun j => ?_
      refine OLe.ite (OLe.refl _) (OLe.bi (aeval_le h x) fun a => OLe.bi ?_ fun _ => OLe.refl _)
      exact OLe.test (alive_le h a) (OLe.refl _)
    | _ => exact OLe.refl _
  | indexAddr t x ix =>
    refine OLe.bi (OLe.refl _) fun i => ?_
    cases i.ud with
    | slice e => exact OLe.bi (OLe.refl _) fun j => OLe.bi (aeval_le h x) fun a => OLe.bi (aeval_le h ix) fun n => OLe.bi (OLe.refl _) fun n => OLe.bi (aindexAddr_le h _ a _) fun _ => OLe.refl _
    | _ => exact OLe.refl _
  | index t x ix =>
    refine OLe.bi (OLe.refl _) fun i => ?_
    cases i.ud with
    | string => exact OLe.bi (aeval_le h x) fun a => OLe.bi (aeval_le h ix) fun n => OLe.refl _
    | _ => exact OLe.refl _
  | slice t x lo hi mx =>
    cases mx with
    | some m => exact OLe.none _
    | none =>
      refine OLe.bi (OLe.refl _) fun i => OLe.bi (aeval_le h x) fun a => OLe.bi ?_ fun l => OLe.bi ?_ fun u => ?_
      · cases lo with
        | none => exact OLe.refl _
        | some l => exact OLe.bi (aeval_le h l) fun _ => OLe.refl _
      · cases hi with
        | none => exact OLe.refl _
        | some l => exact OLe.bi (aeval_le h l) fun _ => OLe.refl _
      · split
        · exact OLe.bi (aslice_le h _ _ _ _) fun _ => OLe.refl _
        · exact OLe.refl _
        · exact OLe.bi (OLe.refl _) fun j => OLe.bi (aslice_le h _ _ _ _) fun _ => OLe.refl _
        · exact OLe.refl _
  | makeSlice t l c =>
    refine OLe.bi (OLe.refl _) fun i => ?_
    cases i.ud with
    | slice e => exact OLe.bi (OLe.refl _) fun j => OLe.bi (OLe.refl _) fun z => OLe.bi (aeval_le h l) fun _ => OLe.bi (OLe.refl _) fun _ => OLe.bi (aeval_le h c) fun _ => OLe.refl _
    | _ => exact OLe.refl _
  | build t parts =>
    refine OLe.bi (OLe.refl _) fun i => ?_
    cases i.ud with
    | struct fs => exact OLe.bi (OLe.refl _) fun z => OLe.bi (aparts_le h _) fun _ => OLe.refl _
    | _ => exact OLe.refl _
  | buildSlice t len parts =>
    refine OLe.bi (OLe.refl _) fun i => ?_
    cases i.ud with
    | slice e => exact OLe.bi (OLe.refl _) fun j => OLe.ite (OLe.bi (aparts_le h _) fun ps => OLe.bi (OLe.refl _) fun fl => OLe.bi (toPVs_le h _ _) fun _ => OLe.refl _) (OLe.refl _)
    | _ => exact OLe.refl _
  | makeFunc fo first captured =>
    cases fo with
    | func f => exact OLe.ite (OLe.bi (aparts_le h _) fun _ => OLe.refl _) (OLe.refl _)
    | _ => exact OLe.none _
  | call ci =>
    obtain ⟨callee, args, ts⟩ := ci
    cases callee with
    | builtin b =>
      cases b with
      | len =>
        simp only [astep]
        split
        · rename_i x t _ _
          refine OLe.bi (OLe.refl _) fun i => OLe.bi (aeval_le h x) fun a => ?_
          split
          · exact OLe.refl _
          · exact OLe.refl _
          · exact OLe.bi (alist_le h _) fun _ => OLe.refl _
          · exact OLe.refl _
        · exact OLe.refl _
      | append =>
        simp only [astep]
        split
        · rename_i s x t u _ _
          refine OLe.ite (OLe.bi (OLe.refl _) fun i => ?_) (OLe.refl _)
          cases i.ud with
          | slice e => exact OLe.bi (OLe.refl _) fun j => OLe.bi (OLe.refl _) fun _ => OLe.bi (aeval_le h s) fun s => OLe.bi (aeval_le h x) fun x => aappend_le h nx j s x
          | _ => exact OLe.refl _
        · exact OLe.refl _
      | min =>
        simp only [astep]
        split
        · rename_i x y _
          exact OLe.bi (aeval_le h x) fun _ => OLe.bi (aeval_le h y) fun _ => OLe.refl _
        · exact OLe.refl _
      | max =>
        simp only [astep]
        split
        · rename_i x y _
          exact OLe.bi (aeval_le h x) fun _ => OLe.bi (aeval_le h y) fun _ => OLe.refl _
        · exact OLe.refl _
      | _ => exact OLe.none _
    | _ => exact OLe.none _
  | _ => exact OLe.none _

theorem OpR_le {P : Program} {tt : TypeId → Option TI} {nx : Nat} {op : Op} {av : AV} {ws : List (Nat × AB)} (ho : OpR P tt ρ nx op av ws) : OpR P tt ρ' nx op av ws := by
  rcases ho with ho | ⟨x, args, ts, f, cap, as, h1, h2, h3, h4, h5⟩
  · exact .inl (astep_le h tt nx op _ ho)
  · exact .inr ⟨x, args, ts, f, cap, as, h1, aeval_le h x _ h2, aevals_le h _ _ h3, h4, CallR_le h h5⟩

end
end Go.Proofs.Ytfeiaibdnnhlaaa
