import Derived.Test.Ytfeiaibdnnhlaaat3
/- The runner, part 1: one operation, and what follows it, as a plain value. -/
set_option linter.unusedSectionVars false
set_option linter.unusedVariables false
set_option linter.unusedSimpArgs false
namespace Go.Proofs.Ytfeiaibdnnhlaaa

abbrev TL := List (Nat × AV)

section
variable {R : Type}

def br (b : Bool) (x y : Option R) : Option R := match b with | true => x | false => y
def chk (b : Bool) (x : Option R) : Option R := match b with | true => x | false => none
def getN (xs : List (List PV)) (i : Nat) (k : List PV → Option R) : Option R := match xs[i]? with | some x => k x | none => none
def getC (xs : List (List PV)) (i : Int) (k : List PV → Option R) : Option R := chk (decide (0 ≤ i)) (getN xs i.toNat k)
def getB (s : ByteArray) (i : Int) (k : Int → Option R) : Option R := chk (decide (0 ≤ i) && decide (i.toNat < s.size)) (k (bAt s i.toNat))
def dInt (kd : IntKind) (x : List PV) (k : Int → List PV → Option R) : Option R := match x with
  | .int k' n :: r => chk (decide (k' = kd)) (k n r)
  | _ => none
def dBool (x : List PV) (k : Bool → List PV → Option R) : Option R := match x with
  | .bool b :: r => k b r
  | _ => none
def dStr (x : List PV) (k : ByteArray → List PV → Option R) : Option R := match x with
  | .str s :: r => k s r
  | _ => none
def dLs (x : List PV) (k : List (List PV) → List PV → Option R) : Option R := match x with
  | .ls xs :: r => k xs r
  | _ => none

def shpP : List PV → List PV → (List PV → Option R) → Option R
  | [], _, k => k []
  | .int kd _ :: z, x, k => dInt kd x fun n r => shpP z r fun l => k (.int kd n :: l)
  | .bool _ :: z, x, k => dBool x fun n r => shpP z r fun l => k (.bool n :: l)
  | .str _ :: z, x, k => dStr x fun n r => shpP z r fun l => k (.str n :: l)
  | .ls _ :: z, x, k => dLs x fun n r => shpP z r fun l => k (.ls n :: l)

theorem br_t (x y : Option R) : br true x y = x := rfl
theorem br_f (x y : Option R) : br false x y = y := rfl
theorem chk_t (x : Option R) : chk true x = x := rfl
theorem chk_f (x : Option R) : chk false x = none := rfl

theorem br_eq {b : Bool} {x y : Option R} {r : R} (h : br b x y = some r) : (b = true ∧ x = some r) ∨ (b = false ∧ y = some r) := by
  cases b
  · exact .inr ⟨rfl, h⟩
  · exact .inl ⟨rfl, h⟩
theorem chk_eq {b : Bool} {x : Option R} {r : R} (h : chk b x = some r) : b = true ∧ x = some r := by
  cases b
  · cases h
  · exact ⟨rfl, h⟩
theorem getN_eq {xs : List (List PV)} {i : Nat} {k : List PV → Option R} {r : R} (h : getN xs i k = some r) : ∃ x, xs[i]? = some x ∧ k x = some r := by
  unfold getN at h; split at h
  · exact ⟨_, by assumption, h⟩
  · cases h
theorem getC_eq {xs : List (List PV)} {i : Int} {k : List PV → Option R} {r : R} (h : getC xs i k = some r) : 0 ≤ i ∧ ∃ x, xs[i.toNat]? = some x ∧ k x = some r := by
  obtain ⟨h1, h2⟩ := chk_eq h
  exact ⟨by simpa using h1, getN_eq h2⟩
theorem dInt_eq {kd : IntKind} {x : List PV} {k : Int → List PV → Option R} {r : R} (h : dInt kd x k = some r) : ∃ n l, x = .int kd n :: l ∧ k n l = some r := by
  unfold dInt at h; split at h
  · obtain ⟨h1, h2⟩ := chk_eq h
    have := of_decide_eq_true h1
    subst this
    exact ⟨_, _, rfl, h2⟩
  · cases h
theorem dBool_eq {x : List PV} {k : Bool → List PV → Option R} {r : R} (h : dBool x k = some r) : ∃ n l, x = .bool n :: l ∧ k n l = some r := by
  unfold dBool at h; split at h
  · exact ⟨_, _, rfl, h⟩
  · cases h
theorem dStr_eq {x : List PV} {k : ByteArray → List PV → Option R} {r : R} (h : dStr x k = some r) : ∃ n l, x = .str n :: l ∧ k n l = some r := by
  unfold dStr at h; split at h
  · exact ⟨_, _, rfl, h⟩
  · cases h
theorem dLs_eq {x : List PV} {k : List (List PV) → List PV → Option R} {r : R} (h : dLs x k = some r) : ∃ n l, x = .ls n :: l ∧ k n l = some r := by
  unfold dLs at h; split at h
  · exact ⟨_, _, rfl, h⟩
  · cases h

theorem shpP_eq {r : R} : ∀ {z x : List PV} {k : List PV → Option R}, shpP z x k = some r → ∃ y rest, x = y ++ rest ∧ y.length = z.length ∧ k y = some r
  | [], x, k, h => ⟨[], x, rfl, rfl, h⟩
  | .int kd _ :: z, x, k, h => by
    obtain ⟨n, l, rfl, h2⟩ := dInt_eq h
    obtain ⟨y, rest, rfl, hl, h3⟩ := shpP_eq h2
    exact ⟨_ :: y, rest, rfl, by simp [hl], h3⟩
  | .bool _ :: z, x, k, h => by
    obtain ⟨n, l, rfl, h2⟩ := dBool_eq h
    obtain ⟨y, rest, rfl, hl, h3⟩ := shpP_eq h2
    exact ⟨_ :: y, rest, rfl, by simp [hl], h3⟩
  | .str _ :: z, x, k, h => by
    obtain ⟨n, l, rfl, h2⟩ := dStr_eq h
    obtain ⟨y, rest, rfl, hl, h3⟩ := shpP_eq h2
    exact ⟨_ :: y, rest, rfl, by simp [hl], h3⟩
  | .ls _ :: z, x, k, h => by
    obtain ⟨n, l, rfl, h2⟩ := dLs_eq h
    obtain ⟨y, rest, rfl, hl, h3⟩ := shpP_eq h2
    exact ⟨_ :: y, rest, rfl, by simp [hl], h3⟩

/-- An element, whole: its cells one by one. -/
def shpA (z x : List PV) (k : List PV → Option R) : Option R := shpP z x fun y => chk (Nat.beq x.length z.length) (k y)

theorem shpA_eq {z x : List PV} {k : List PV → Option R} {r : R} (h : shpA z x k = some r) : x.length = z.length ∧ k x = some r := by
  obtain ⟨y, rest, rfl, hl, h⟩ := shpP_eq h
  obtain ⟨h1, h2⟩ := chk_eq h
  have h1 := Nat.eq_of_beq_eq_true h1
  have : rest = [] := by
    cases rest with
    | nil => rfl
    | cons a l => simp at h1; omega
  subst this
  exact ⟨h1, by simpa using h2⟩

abbrev KK1 (R : Type) := AV → List (Nat × AB) → Option R

def cindex (ρ : Rd) (j : TI) (a : AV) (i : Int) (k : AV → Option R) : Option R :=
  match a with
  | .sl b => match ρ.m b with
    | some (.ar e _ xs) => chk (Nat.beq e j.size) (chk (decide (0 ≤ i) && decide (i < xs.length)) (k (.el b i.toNat 0)))
    | _ => none
  | .d (.ls xs) => match j.zero with
    | some z => chk (Nat.beq z.length j.size) (getC xs i fun x => shpA z x fun x => k (.vel none x 0))
    | none => none
  | .tv b n xs => match j.zero with
    | some z => chk (stampIs ρ b n) (chk (Nat.beq z.length j.size) (getC xs i fun x => shpA z x fun x => k (.vel (some (b, n)) x 0)))
    | none => none
  | _ => none

theorem cindex_eq {ρ : Rd} {j : TI} {a : AV} {i : Int} {k : AV → Option R} {r : R} (h : cindex ρ j a i k = some r) : ∃ v, aindexAddr ρ j.size a i = some v ∧ k v = some r := by
  unfold cindex at h
  split at h
  · rename_i b
    split at h
    · rename_i e n xs hm
      obtain ⟨h1, h⟩ := chk_eq h
      obtain ⟨h2, h⟩ := chk_eq h
      have h1 := Nat.eq_of_beq_eq_true h1
      simp only [Bool.and_eq_true, decide_eq_true_eq] at h2
      refine ⟨_, ?_, h⟩
      simp only [aindexAddr, hm, h1, if_true, if_pos h2]
    · cases h
  · rename_i xs
    split at h
    · obtain ⟨h1, h⟩ := chk_eq h
      have h1 := Nat.eq_of_beq_eq_true h1
      obtain ⟨h2, x, hx, h⟩ := getC_eq h
      obtain ⟨h3, h⟩ := shpA_eq h
      refine ⟨_, ?_, h⟩
      simp only [aindexAddr, h2, if_true, hx, h3, h1]
    · cases h
  · rename_i b n xs
    split at h
    · obtain ⟨h0, h⟩ := chk_eq h
      obtain ⟨h1, h⟩ := chk_eq h
      have h1 := Nat.eq_of_beq_eq_true h1
      obtain ⟨h2, x, hx, h⟩ := getC_eq h
      obtain ⟨h3, h⟩ := shpA_eq h
      refine ⟨_, ?_, h⟩
      simp only [aindexAddr, h0, h2, if_true, hx, h3, h1]
    · cases h
  · cases h

def cload (ρ : Rd) (i : TI) (sz : Option Nat) (a : AV) (k : AV → Option R) : Option R :=
  match a with
  | .el b ix off => match ρ.m b with
    | some (.ar _ n xs) => match i.zero with
      | some z => getN xs ix fun x => shpP z (x.drop off) fun y => match sz with
        | none => match y with
          | [p] => k (pvw b n p)
          | _ => none
        | some m => chk (Nat.beq m z.length && Nat.blt 0 m) (k (.agg (y.map (pvw b n))))
      | none => none
    | _ => none
  | a => match aload ρ sz a with
    | some v => k v
    | none => none

theorem cload_eq {ρ : Rd} {i : TI} {sz : Option Nat} {a : AV} {k : AV → Option R} {r : R} (h : cload ρ i sz a k = some r) : ∃ v, aload ρ sz a = some v ∧ k v = some r := by
  unfold cload at h
  split at h
  · rename_i b ix off
    split at h
    · rename_i e n xs hm
      split at h
      · rename_i z hz
        obtain ⟨x, hx, h⟩ := getN_eq h
        obtain ⟨y, rest, he, hl, h⟩ := shpP_eq h
        simp only [aload, hm, hx]
        split at h
        · split at h
          · rename_i p
            refine ⟨_, ?_, h⟩
            simp only [pickC, List.getElem?_map]
            have : x[off]? = some p := by
              have := congrArg (fun l => l[0]?) he
              simpa using this
            rw [this]; rfl
          · cases h
        · rename_i m
          obtain ⟨h1, h⟩ := chk_eq h
          simp only [Bool.and_eq_true, Nat.blt_eq] at h1
          have h2 := Nat.eq_of_beq_eq_true h1.1
          refine ⟨_, ?_, h⟩
          have hlen := congrArg List.length he
          simp at hlen
          simp only [pickC, List.length_map]
          rw [if_pos (by omega), ← List.map_drop, he, List.map_append, List.take_append_of_le_length (by simp; omega), List.take_of_length_le (by simp; omega)]
      · cases h
    · cases h
  · split at h
    · exact ⟨_, by assumption, h⟩
    · cases h

def cstore (ρ : Rd) (size : Nat) (a x : AV) (k : List (Nat × AB) → Option R) : Option R :=
  match a with
  | .el b i off => match ρ.m b with
    | some (.ar e n xs) => match decide ((acells x).length = size) && (isCell x || isAggA x) with
      | true => getN xs i fun x0 => chk (decide (off + size ≤ x0.length)) (match elSt ρ b i e n xs x0 off [] (acells x) with
        | some ws => k ws
        | none => none)
      | false => none
    | _ => none
  | a => match astore ρ size a x with
    | some ws => k ws
    | none => none

theorem cstore_eq {ρ : Rd} {size : Nat} {a x : AV} {k : List (Nat × AB) → Option R} {r : R} (h : cstore ρ size a x k = some r) : ∃ ws, astore ρ size a x = some ws ∧ k ws = some r := by
  unfold cstore at h
  split at h
  · rename_i b i off
    split at h
    · rename_i e n xs hm
      split at h
      · rename_i hc
        obtain ⟨x0, hx, h⟩ := getN_eq h
        obtain ⟨h1, h⟩ := chk_eq h
        have h1 := of_decide_eq_true h1
        split at h
        · rename_i ws hw
          refine ⟨ws, ?_, h⟩
          simp only [Bool.and_eq_true, decide_eq_true_eq] at hc
          have hc' : (decide ((acells x).length = size) && (isCell x || isAggA x)) = true := by simp [hc]
          simp only [astore]
          rw [if_pos (by simp [hc])]
          simp only [hm, hx, if_pos h1, hw]
        · cases h
      · cases h
    · cases h
  · split at h
    · exact ⟨_, by assumption, h⟩
    · cases h

def cslice (ρ : Rd) (size : Nat) (a : AV) (lo hi : Option Int) (k : AV → Option R) : Option R :=
  match a with
  | .d (.str s) => chk (decide (0 ≤ lo.getD 0) && decide (lo.getD 0 ≤ hi.getD s.size) && decide (hi.getD s.size ≤ s.size)) (k (.d (.str (s.extract (lo.getD 0).toNat (hi.getD s.size).toNat))))
  | .d (.ls xs) => chk (widthOk size xs) (chk (decide (0 ≤ lo.getD 0) && decide (lo.getD 0 ≤ hi.getD xs.length) && decide (hi.getD xs.length ≤ xs.length)) (k (.d (.ls ((xs.drop (lo.getD 0).toNat).take ((hi.getD xs.length).toNat - (lo.getD 0).toNat))))))
  | .tv b n xs => chk (stampIs ρ b n) (chk (widthOk size xs) (chk (decide (0 ≤ lo.getD 0) && decide (lo.getD 0 ≤ hi.getD xs.length) && decide (hi.getD xs.length ≤ xs.length)) (k (.tv b n ((xs.drop (lo.getD 0).toNat).take ((hi.getD xs.length).toNat - (lo.getD 0).toNat))))))
  | .nil => chk (decide (0 ≤ lo.getD 0) && decide (lo.getD 0 ≤ hi.getD 0) && decide (hi.getD 0 ≤ 0)) (k (.d (.ls [])))
  | .sl b => match ρ.m b with
    | some (.ar e n xs) => chk (Nat.beq e size) (chk (decide (0 ≤ lo.getD 0) && decide (lo.getD 0 ≤ hi.getD xs.length) && decide (hi.getD xs.length ≤ xs.length)) (k (.tv b n ((xs.drop (lo.getD 0).toNat).take ((hi.getD xs.length).toNat - (lo.getD 0).toNat)))))
    | _ => none
  | _ => none

theorem cslice_eq {ρ : Rd} {size : Nat} {a : AV} {lo hi : Option Int} {k : AV → Option R} {r : R} (h : cslice ρ size a lo hi k = some r) : ∃ v, aslice ρ size a lo hi = some v ∧ k v = some r := by
  unfold cslice at h
  split at h
  · obtain ⟨h1, h⟩ := chk_eq h
    simp only [Bool.and_eq_true, decide_eq_true_eq, and_assoc] at h1
    refine ⟨_, ?_, h⟩
    simp only [aslice]; rw [if_pos h1]
  · obtain ⟨h0, h⟩ := chk_eq h
    obtain ⟨h1, h⟩ := chk_eq h
    simp only [Bool.and_eq_true, decide_eq_true_eq, and_assoc] at h1
    refine ⟨_, ?_, h⟩
    simp only [aslice, h0, if_true]; rw [if_pos h1]
  · obtain ⟨h2, h⟩ := chk_eq h
    obtain ⟨h0, h⟩ := chk_eq h
    obtain ⟨h1, h⟩ := chk_eq h
    simp only [Bool.and_eq_true, decide_eq_true_eq, and_assoc] at h1
    refine ⟨_, ?_, h⟩
    simp only [aslice, h0, h2, Bool.and_self, if_true]; rw [if_pos h1]
  · obtain ⟨h1, h⟩ := chk_eq h
    simp only [Bool.and_eq_true, decide_eq_true_eq, and_assoc] at h1
    refine ⟨_, ?_, h⟩
    simp only [aslice]; rw [if_pos (by simpa using h1)]
  · split at h
    · rename_i b e n xs hm
      obtain ⟨h0, h⟩ := chk_eq h
      have h0 := Nat.eq_of_beq_eq_true h0
      obtain ⟨h1, h⟩ := chk_eq h
      simp only [Bool.and_eq_true, decide_eq_true_eq, and_assoc] at h1
      refine ⟨_, ?_, h⟩
      simp only [aslice, hm, h0, if_true]; rw [if_pos h1]
    · cases h
  · cases h

def cintOp (op : BinOp) (kd : IntKind) (a b : Int) (k : PV → Option R) : Option R :=
  match op with
  | .quo => chk (!decide (b = 0)) (k (.int kd (kd.wrap (a.tdiv b))))
  | .rem => chk (!decide (b = 0)) (k (.int kd (a.tmod b)))
  | .shr => chk (decide (0 ≤ b)) (k (.int kd (a.fdiv (2 ^ (min b.toNat kd.bits)))))
  | .shl => chk (decide (0 ≤ b)) (k (.int kd (kd.wrap (a * 2 ^ (min b.toNat kd.bits)))))
  | op => match aintOp op kd a b with
    | some p => k p
    | none => none

end
end Go.Proofs.Ytfeiaibdnnhlaaa
