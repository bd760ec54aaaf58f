import Derived.Test.Ytfeiaibdnnhlaaac6
import Derived.Test.Ytfeiaibdnnhlaaam1
/- The values of the program, plainly; lists of cells and lists of values. -/
set_option linter.unusedSectionVars false
set_option linter.unusedVariables false
set_option linter.unusedSimpArgs false
namespace Go.Proofs.Ytfeiaibdnnhlaaa

structure Iv where
  low : ByteArray
  high : ByteArray
  deriving DecidableEq

def Iv.pv (v : Iv) : List PV := [.str v.low, .str v.high]
def Route.iv (r : Route) : Iv := ⟨r.low, r.high⟩

def unL {α : Type} (f : List PV → Option α) : List (List PV) → Option (List α)
  | [] => some []
  | x :: l => match f x with
    | some a => match unL f l with
      | some r => some (a :: r)
      | none => none
    | none => none

theorem unL_eq {α : Type} {f : List PV → Option α} {g : α → List PV} (h : ∀ x a, f x = some a → x = g a) : ∀ {xs : List (List PV)} {as : List α}, unL f xs = some as → xs = as.map g
  | [], as, h' => by cases h'; rfl
  | x :: l, as, h' => by
    simp only [unL] at h'
    split at h'
    · rename_i a ha
      split at h'
      · rename_i r hr
        cases h'
        rw [List.map_cons, ← h _ _ ha, ← unL_eq h hr]
      · cases h'
    · cases h'

theorem unL_map {α : Type} {f : List PV → Option α} {g : α → List PV} (h : ∀ a, f (g a) = some a) : ∀ (as : List α), unL f (as.map g) = some as
  | [] => rfl
  | a :: l => by simp only [List.map_cons, unL, h, unL_map h l]

def unIv : List PV → Option Iv
  | [.str a, .str b] => some ⟨a, b⟩
  | _ => none
def unRoute : List PV → Option Route
  | [.int .i64 n, .str a, .str b] => some ⟨n, a, b⟩
  | _ => none

theorem unIv_eq (x : List PV) (a : Iv) (h : unIv x = some a) : x = a.pv := by
  unfold unIv at h; split at h
  · cases h; rfl
  · cases h
theorem unRoute_eq (x : List PV) (a : Route) (h : unRoute x = some a) : x = a.pv := by
  unfold unRoute at h; split at h
  · cases h; rfl
  · cases h

def Decision.pv (d : Decision) : List PV := .int .i64 d.kind :: d.begun.pv
def unDec : List PV → Option Decision
  | [.int .i64 z, .int .i64 a, .int .i64 b, .int .i64 c, .str s, .int .i64 d, .int .i64 e, .int .i64 f] => some ⟨z, ⟨a, b, c, s, d, e, f⟩⟩
  | _ => none
theorem unDec_eq (x : List PV) (a : Decision) (h : unDec x = some a) : x = a.pv := by
  unfold unDec at h; split at h
  · cases h; rfl
  · cases h
def unDecs : List (List PV) → Option (List Decision) := unL unDec
theorem unDecs_eq {xs : List (List PV)} {as : List Decision} (h : unDecs xs = some as) : xs = as.map Decision.pv := unL_eq unDec_eq h
theorem unDecs_map (as : List Decision) : unDecs (as.map Decision.pv) = some as := unL_map (g := Decision.pv) (fun _ => rfl) as
theorem Decision.pv_len (r : Decision) : r.pv.length = 8 := rfl

def unIvs : List (List PV) → Option (List Iv) := unL unIv
def unRoutes : List (List PV) → Option (List Route) := unL unRoute
theorem unIvs_eq {xs : List (List PV)} {as : List Iv} (h : unIvs xs = some as) : xs = as.map Iv.pv := unL_eq unIv_eq h
theorem unRoutes_eq {xs : List (List PV)} {as : List Route} (h : unRoutes xs = some as) : xs = as.map Route.pv := unL_eq unRoute_eq h
theorem unIvs_map (as : List Iv) : unIvs (as.map Iv.pv) = some as := unL_map (g := Iv.pv) (fun _ => rfl) as
theorem unRoutes_map (as : List Route) : unRoutes (as.map Route.pv) = some as := unL_map (g := Route.pv) (fun _ => rfl) as

section
variable {R : Type} {α : Type} {f : α → List PV}

theorem bi_s {β γ : Type} (a : β) (k : β → Option γ) : bi (some a) k = k a := rfl
theorem bi_n {β γ : Type} (k : β → Option γ) : bi (none : Option β) k = none := rfl

/-- An element of a list that is told by values. -/
theorem getC_map {xs : List α} {i : Nat} (h : i < xs.length) (k : List PV → Option R) : getC (xs.map f) (i : Int) k = k (f xs[i]) := by
  have h0 : decide ((0 : Int) ≤ i) = true := by simp
  simp only [getC, h0, chk, getN, Int.toNat_natCast, List.getElem?_map, List.getElem?_eq_getElem h, Option.map_some]
theorem getC_map' {xs : List α} {i : Int} (h0 : 0 ≤ i) (h : i.toNat < xs.length) (k : List PV → Option R) : getC (xs.map f) i k = k (f (xs[i.toNat]'h)) := by
  have h0 : decide ((0 : Int) ≤ i) = true := by simp [h0]
  simp only [getC, h0, chk, getN, List.getElem?_map, List.getElem?_eq_getElem h, Option.map_some]
theorem getN_map {xs : List α} {i : Nat} (h : i < xs.length) (k : List PV → Option R) : getN (xs.map f) i k = k (f xs[i]) := by
  simp only [getN, List.getElem?_map, List.getElem?_eq_getElem h, Option.map_some]

theorem dInt_c (kd : IntKind) (n : Int) (l : List PV) (k : Int → List PV → Option R) : dInt kd (.int kd n :: l) k = k n l := by simp [dInt, chk]
theorem dStr_c (s : ByteArray) (l : List PV) (k : ByteArray → List PV → Option R) : dStr (.str s :: l) k = k s l := rfl
theorem dBool_c (s : Bool) (l : List PV) (k : Bool → List PV → Option R) : dBool (.bool s :: l) k = k s l := rfl
theorem dLs_c (s : List (List PV)) (l : List PV) (k : List (List PV) → List PV → Option R) : dLs (.ls s :: l) k = k s l := rfl

theorem getB_in {s : ByteArray} {i : Nat} (h : i < s.size) (k : Int → Option R) : getB s (i : Int) k = k (bAt s i) := by
  have : (decide ((0 : Int) ≤ i) && decide ((i : Int).toNat < s.size)) = true := by simp [h]
  unfold getB; rw [this]; rfl

theorem lt_t {i n : Nat} (h : i < n) : decide ((i : Int) < (n : Int)) = true := by simp [h]
theorem lt_f {i n : Nat} (h : ¬ i < n) : decide ((i : Int) < (n : Int)) = false := by simp; omega

theorem wrap_s {i : Nat} (h : i < 4611686018427387904) : IntKind.i64.wrap ((i : Int) + 1) = ((i + 1 : Nat) : Int) := by
  rw [wrap_id (by omega) (by omega)]; rfl

theorem chk_beq {n : Nat} (x : Option R) : chk (Nat.beq n n) x = x := by rw [Nat.beq_refl]; rfl

theorem br_b (b : Bool) (x : Bool) (k : Bool → Option R) : br b (k x) (k false) = k (b && x) := by cases b <;> rfl

theorem widthOk_map {e : Nat} (h : ∀ a, (f a).length = e) (xs : List α) : widthOk e (xs.map f) = true := by
  simp [widthOk, h]
theorem flatL_map (h : ∀ a, (f a).all flatP = true) (xs : List α) : flatL (xs.map f) = true := by
  simp only [flatL, List.all_map, List.all_eq_true]
  intro a _; exact h a
theorem clim_t {n b : Nat} (h : n * b ≤ 140737488355328) : clim n b = true := by simp [clim, h]
end

theorem Route.pv_len (r : Route) : r.pv.length = 3 := rfl
theorem Route.pv_flat (r : Route) : r.pv.all flatP = true := rfl
theorem Iv.pv_len (r : Iv) : r.pv.length = 2 := rfl
theorem Iv.pv_flat (r : Iv) : r.pv.all flatP = true := rfl

end Go.Proofs.Ytfeiaibdnnhlaaa
