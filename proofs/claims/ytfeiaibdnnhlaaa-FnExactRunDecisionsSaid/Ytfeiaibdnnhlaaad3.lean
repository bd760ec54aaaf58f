import Derived.Test.Ytfeiaibdnnhlaaad2
import Derived.Laws.Strings2
/- Plain lemmas: booleans of printed functions; strings. -/
set_option linter.unusedSectionVars false
set_option linter.unusedVariables false
set_option linter.unusedSimpArgs false
namespace Go.Proofs.Ytfeiaibdnnhlaaa

section
variable {R : Type}
theorem br_kb (c x y : Bool) (k : AV → List AB → Option R) (m : List AB) : br c (k (.d (.bool x)) m) (k (.d (.bool y)) m) = k (.d (.bool (cond c x y))) m := by cases c <;> rfl
theorem br_same (c : Bool) (x : Option R) : br c x x = x := by cases c <;> rfl
theorem br_not (c : Bool) (x y : Option R) : br (!c) x y = br c y x := by cases c <;> rfl
theorem br_and (a b : Bool) (x y : Option R) : br (a && b) x y = br a (br b x y) y := by cases a <;> cases b <;> rfl
theorem br_or (a b : Bool) (x y : Option R) : br (a || b) x y = br a x (br b x y) := by cases a <;> cases b <;> rfl
end

theorem getB_0 {R : Type} {s : ByteArray} (h : 0 < s.size) (k : Int → Option R) : getB s 0 k = k (bAt s 0) := getB_in h k

theorem bAt_mk (l : List UInt8) (i : Nat) : bAt ⟨l.toArray⟩ i = ((l[i]?.getD 0).toNat : Int) := by
  unfold bAt
  congr 2
  by_cases h : i < l.length
  · rw [List.getElem?_eq_getElem h, ByteArray.getElem?_lt' _ _ h]; rfl
  · rw [List.getElem?_eq_none (by omega), ByteArray.getElem?_ge' _ _ h]

theorem size_mk (l : List UInt8) : (ByteArray.mk l.toArray).size = l.length := rfl
theorem mk_inj {l l' : List UInt8} : ((⟨l.toArray⟩ : ByteArray) = ⟨l'.toArray⟩) ↔ l = l' := by
  constructor
  · intro h
    have := congrArg (fun b => b.data.toList) h
    simpa using this
  · intro h; rw [h]

theorem less_mk (l l' : List UInt8) : less ⟨l.toArray⟩ ⟨l'.toArray⟩ = Op.bytesLess l l' := by
  simp [less]

theorem less_a {b : ByteArray} (h : keyOk b = true) : less ⟨#[97]⟩ b = !decide (b = ⟨#[97]⟩) := by
  obtain ⟨⟨l⟩⟩ := b
  have e : (⟨#[97]⟩ : ByteArray) = ⟨[97].toArray⟩ := rfl
  rw [e, less_mk]
  simp only [mk_inj]
  cases l with
  | nil => exact absurd h (by rw [show keyOk ⟨([] : List UInt8).toArray⟩ = false from rfl]; decide)
  | cons c r =>
    have h1 : 97 ≤ bAt ⟨(c :: r).toArray⟩ 0 := by
      simp only [keyOk, letters, Bool.and_eq_true, List.all_eq_true, List.mem_range, decide_eq_true_eq] at h
      exact (h.2 0 (by omega)).1
    rw [bAt_mk] at h1
    simp at h1
    have h2 : 97 ≤ c.toNat := by omega
    simp only [Op.bytesLess]
    by_cases hc : c = 97
    · subst hc
      cases r <;> simp [Op.bytesLess]
    · have h3 : 97 < c.toNat := by
        refine Nat.lt_of_le_of_ne h2 fun e => hc ?_
        exact UInt8.toNat_inj.1 (by simpa using e.symm)
      have : (97 : UInt8) < c := by simpa [UInt8.lt_iff_toNat_lt] using h3
      simp [this, hc]

theorem letters_cons (c : UInt8) (r : List UInt8) : letters ⟨(c :: r).toArray⟩ = (decide (97 ≤ (c.toNat : Int)) && decide ((c.toNat : Int) ≤ 122) && letters ⟨r.toArray⟩) := by
  simp only [letters, size_mk, List.length_cons, bAt_mk]
  rw [List.range_succ_eq_map]
  simp [Function.comp_def]

theorem extract_tail (c : UInt8) (r : List UInt8) : (⟨(c :: r).toArray⟩ : ByteArray).extract 1 (r.length + 1) = ⟨r.toArray⟩ := by
  rw [ByteArray.extract_mk]; simp

end Go.Proofs.Ytfeiaibdnnhlaaa
