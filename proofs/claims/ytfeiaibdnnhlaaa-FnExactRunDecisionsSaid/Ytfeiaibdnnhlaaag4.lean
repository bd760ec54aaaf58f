import Derived.Test.Ytfeiaibdnnhlaaag3
/- Splitting and merging. -/
set_option linter.unusedVariables false
set_option linter.unusedSimpArgs false
namespace Go.Proofs.Ytfeiaibdnnhlaaa

theorem lit1 (n : Int) (a b : ByteArray) : [[PV.int .i64 n, .str a, .str b]] = [Route.mk n a b].map Route.pv := rfl
theorem litc (n : Int) (a b : ByteArray) (rs : List Route) : [PV.int .i64 n, .str a, .str b] :: rs.map Route.pv = (Route.mk n a b :: rs).map Route.pv := rfl
theorem idx_s (i : Nat) : idx (some i) = (i : Int) := rfl
theorem idx_n : idx none = -1 := rfl
theorem neg1 : decide ((-1 : Int) < 0) = true := rfl
theorem lit2 (n o : Int) (a b c d : ByteArray) : [[PV.int .i64 n, .str a, .str b], [PV.int .i64 o, .str c, .str d]] = [Route.mk n a b, Route.mk o c d].map Route.pv := rfl

def splitC (rs : List Route) (i : Nat) (key : ByteArray) (y z : Int) : List Route := rs.take i ++ [⟨y, (rAt rs i).low, key⟩, ⟨z, key, (rAt rs i).high⟩] ++ rs.drop (i + 1)
def splitR (rs : List Route) (x : Int) (key : ByteArray) (y z : Int) : List Route × Bool :=
  if routesOk rs then match rIndex rs x with
    | none => (rs, false)
    | some i => if cutOk (rAt rs i).iv key && routesOk (splitC rs i key y z) then (splitC rs i key y z, true) else (rs, false)
  else ([], false)
def mergeC (rs : List Route) (i : Nat) (y : Int) : List Route := rs.take i ++ [⟨y, (rAt rs i).low, (rAt rs (i + 1)).high⟩] ++ rs.drop (i + 2)
def mergeR (rs : List Route) (x y : Int) : List Route × Bool :=
  if routesOk rs then match rIndex rs x with
    | none => (rs, false)
    | some i => if decide (i + 1 < rs.length) && routesOk (mergeC rs i y) then (mergeC rs i y, true) else (rs, false)
  else ([], false)

theorem rIndex_lt {rs : List Route} {x : Int} {i : Nat} (h : rIndex rs x = some i) : i < rs.length := by
  unfold rIndex at h; rw [List.findIdx?_eq_some_iff_getElem] at h; exact h.1
theorem rIndex_num {rs : List Route} {x : Int} {i : Nat} (h : rIndex rs x = some i) : (rAt rs i).number = x := by
  have hl := rIndex_lt h
  unfold rIndex at h; rw [List.findIdx?_eq_some_iff_getElem] at h; rw [rAt_get hl]; simpa using h.2.1
theorem routes_join {rs : List Route} (h : routesOk rs = true) {i : Nat} (hi : i + 1 < rs.length) : joinOk (rAt rs i).iv (rAt rs (i + 1)).iv = true := by
  simp only [routesOk, partOk, Bool.and_eq_true, List.all_eq_true, List.mem_range, List.length_map] at h
  have := h.1.2 i (by omega)
  rw [ivAt_get (by simp; omega), ivAt_get (by simp; omega)] at this
  rw [rAt_get (by omega), rAt_get hi]
  simpa using this

theorem lenInt {n : Nat} : ((n : Int)).toNat = n := Int.toNat_natCast n
theorem slice_c {α : Type} (l : List α) (a b : Nat) (h : b = l.length) : (l.drop a).take (b - a) = l.drop a := by
  subst h; exact List.take_of_length_le (by simp)

/- spec.SplitRoute -/

def spec_SplitRoute_c {R : Type} (N : Nat) (xs : List (List PV)) (x : Int) (key : ByteArray) (y : Int) (z : Int) (k : AV → List AB → Option R) : Option R :=
  bi (unRoutes xs) fun rs1 =>
  br (!(routesOk rs1))
  (k (.tup [.sl 0, .d (.bool false)]) [.ar 3 0 ([] : List (List PV))])
  (bi (unRoutes xs) fun rs2 =>
   chk (decide (rs2.length ≤ 1048576))
   (br (decide ((idx (rIndex rs2 x)) < 0))
    (chk (widthOk 3 xs && clim (0 + xs.length) 40)
     (chk (flatL xs)
      (k (.tup [.sl 0, .d (.bool false)]) [.ar 3 0 xs])))
    (getC xs (idx (rIndex rs2 x)) fun x3 =>
     dInt .i64 x3 fun n5 r4 => dStr r4 fun s7 r6 => dStr r6 fun s9 r8 =>
     chk (Nat.beq x3.length 3)
     (br (cutOk ⟨s7, s9⟩ key)
      (chk (widthOk 3 xs)
       (chk (decide (0 ≤ (idx (rIndex rs2 x))) && decide ((idx (rIndex rs2 x)) ≤ (xs.length : Int)))
        (chk (widthOk 3 ((xs.drop 0).take (((idx (rIndex rs2 x)).toNat) - 0)) && clim (0 + ((xs.drop 0).take (((idx (rIndex rs2 x)).toNat) - 0)).length) 40)
         (chk (flatL ((xs.drop 0).take (((idx (rIndex rs2 x)).toNat) - 0)))
          (chk (clim (((xs.drop 0).take (((idx (rIndex rs2 x)).toNat) - 0)).length + 2) 40)
           (chk (widthOk 3 xs)
            (chk (decide (0 ≤ IntKind.i64.wrap ((idx (rIndex rs2 x)) + 1)) && decide (IntKind.i64.wrap ((idx (rIndex rs2 x)) + 1) ≤ (xs.length : Int)) && decide ((xs.length : Int) ≤ (xs.length : Int)))
             (chk (widthOk 3 ((xs.drop ((IntKind.i64.wrap ((idx (rIndex rs2 x)) + 1)).toNat)).take (((xs.length : Int).toNat) - ((IntKind.i64.wrap ((idx (rIndex rs2 x)) + 1)).toNat))) && clim ((((xs.drop 0).take (((idx (rIndex rs2 x)).toNat) - 0)) ++ ([[.int .i64 y, .str s7, .str key], [.int .i64 z, .str key, .str s9]] : List (List PV))).length + ((xs.drop ((IntKind.i64.wrap ((idx (rIndex rs2 x)) + 1)).toNat)).take (((xs.length : Int).toNat) - ((IntKind.i64.wrap ((idx (rIndex rs2 x)) + 1)).toNat))).length) 40)
              (chk (flatL ((xs.drop ((IntKind.i64.wrap ((idx (rIndex rs2 x)) + 1)).toNat)).take (((xs.length : Int).toNat) - ((IntKind.i64.wrap ((idx (rIndex rs2 x)) + 1)).toNat))))
               (bi (unRoutes ((((xs.drop 0).take (((idx (rIndex rs2 x)).toNat) - 0)) ++ ([[.int .i64 y, .str s7, .str key], [.int .i64 z, .str key, .str s9]] : List (List PV))) ++ ((xs.drop ((IntKind.i64.wrap ((idx (rIndex rs2 x)) + 1)).toNat)).take (((xs.length : Int).toNat) - ((IntKind.i64.wrap ((idx (rIndex rs2 x)) + 1)).toNat))))) fun rs10 =>
                br (!(routesOk rs10))
                (chk (widthOk 3 xs && clim (0 + xs.length) 40)
                 (chk (flatL xs)
                  (k (.tup [.sl 0, .d (.bool false)]) [.ar 3 0 xs])))
                (k (.tup [.sl 0, .d (.bool true)]) [.ar 3 0 ((((xs.drop 0).take (((idx (rIndex rs2 x)).toNat) - 0)) ++ ([[.int .i64 y, .str s7, .str key], [.int .i64 z, .str key, .str s9]] : List (List PV))) ++ ((xs.drop ((IntKind.i64.wrap ((idx (rIndex rs2 x)) + 1)).toNat)).take (((xs.length : Int).toNat) - ((IntKind.i64.wrap ((idx (rIndex rs2 x)) + 1)).toNat))))])))))))))))
      (chk (widthOk 3 xs)
       (chk (decide (0 ≤ (idx (rIndex rs2 x))) && decide ((idx (rIndex rs2 x)) ≤ (xs.length : Int)))
        (chk (widthOk 3 ((xs.drop 0).take (((idx (rIndex rs2 x)).toNat) - 0)) && clim (0 + ((xs.drop 0).take (((idx (rIndex rs2 x)).toNat) - 0)).length) 40)
         (chk (flatL ((xs.drop 0).take (((idx (rIndex rs2 x)).toNat) - 0)))
          (chk (clim (((xs.drop 0).take (((idx (rIndex rs2 x)).toNat) - 0)).length + 2) 40)
           (chk (widthOk 3 xs)
            (chk (decide (0 ≤ IntKind.i64.wrap ((idx (rIndex rs2 x)) + 1)) && decide (IntKind.i64.wrap ((idx (rIndex rs2 x)) + 1) ≤ (xs.length : Int)) && decide ((xs.length : Int) ≤ (xs.length : Int)))
             (chk (widthOk 3 ((xs.drop ((IntKind.i64.wrap ((idx (rIndex rs2 x)) + 1)).toNat)).take (((xs.length : Int).toNat) - ((IntKind.i64.wrap ((idx (rIndex rs2 x)) + 1)).toNat))) && clim ((((xs.drop 0).take (((idx (rIndex rs2 x)).toNat) - 0)) ++ ([[.int .i64 y, .str ⟨#[]⟩, .str ⟨#[]⟩], [.int .i64 z, .str ⟨#[]⟩, .str ⟨#[]⟩]] : List (List PV))).length + ((xs.drop ((IntKind.i64.wrap ((idx (rIndex rs2 x)) + 1)).toNat)).take (((xs.length : Int).toNat) - ((IntKind.i64.wrap ((idx (rIndex rs2 x)) + 1)).toNat))).length) 40)
              (chk (flatL ((xs.drop ((IntKind.i64.wrap ((idx (rIndex rs2 x)) + 1)).toNat)).take (((xs.length : Int).toNat) - ((IntKind.i64.wrap ((idx (rIndex rs2 x)) + 1)).toNat))))
               (chk (widthOk 3 xs && clim (0 + xs.length) 40)
                (chk (flatL xs)
                 (k (.tup [.sl 0, .d (.bool false)]) [.ar 3 0 xs]))))))))))))))))

def spec_SplitRoute_C (N : Nat) : CC := ⟨Γ_impl_MasterValid, Λ0, Δ0, Μ0⟩

theorem spec_SplitRoute_C_Γ (N : Nat) : ∀ f s, (spec_SplitRoute_C N).Γ f = some s → SmrOK Try.prog f s := Γ_impl_MasterValid_ok

theorem spec_SplitRoute_C_Λ (N : Nat) : ∀ c, Try.f36.body = some c → ∀ b ∈ loopsIn c, ∀ s, (spec_SplitRoute_C N).Λ (lid b) = some s → LOK Try.prog Try.f36.ntmps 0 b s :=
  LOKs_ofF (bs := []) (by kernel_rfl) LOKs_n

theorem spec_SplitRoute_run {R : Type} (N : Nat) (xs : List (List PV)) (x : Int) (key : ByteArray) (y : Int) (z : Int) (k : AV → List AB → Option R) :
    cfunN tt (spec_SplitRoute_C N) Try.f36 0 [.d (.ls xs), .d (.int .i64 x), .d (.str key), .d (.int .i64 y), .d (.int .i64 z)] [] k = spec_SplitRoute_c N xs x key y z k := by kernel_rfl

theorem spec_SplitRoute_ceq {R : Type} (N : Nat) (x : Int) (key : ByteArray) (y : Int) (z : Int) (rs : List Route) (k : AV → List AB → Option R) (hp1 : (decide (rs.length ≤ 1048576)) = true) :
    spec_SplitRoute_c N (rs.map Route.pv) x key y z k = k (.tup [.sl 0, .d (.bool ((splitR rs x key y z).2))]) [.ar 3 0 ((splitR rs x key y z).1.map Route.pv)] := by
  simp only [spec_SplitRoute_c, Route.pv, Iv.pv, dInt_c, dStr_c, List.length_cons, List.length_nil, Nat.zero_add, Nat.reduceAdd, chk_beq, chk_t, br_t, br_f, bi_s, unRoutes_map, unIvs_map, hp1]
  unfold splitR
  cases hr : routesOk rs
  · rfl
  · have hl := routes_len hr
    simp only [Bool.not_true, br_f, if_true]
    cases hx : rIndex rs x with
    | none =>
      rw [idx_n, neg1]
      simp (disch := first | omega | (simp only [List.length_append, List.length_map, List.length_take, List.length_drop, List.length_cons, List.length_nil]; omega)) only [clim_t, List.drop_zero, Nat.sub_zero, ← List.map_take, ← List.map_drop, ← List.map_append, List.nil_append, Int.toNat_natCast, List.length_map, widthOk_map Route.pv_len, flatL_map Route.pv_flat, Bool.true_and, Bool.and_true, lit1, litc, Route.pv, Iv.pv, dInt_c, dStr_c, List.length_cons, List.length_nil, Nat.zero_add, Nat.reduceAdd, chk_beq, chk_t, br_t, br_f, bi_s, unRoutes_map, unIvs_map]
    | some i =>
      have hi := rIndex_lt hx
      rw [idx_s, decide_eq_false (show ¬ (i : Int) < 0 by omega), br_f, getC_map hi, wrap_s (by omega)]
      simp (disch := first | omega | (simp only [List.length_append, List.length_map, List.length_take, List.length_drop, List.length_cons, List.length_nil]; omega)) only [Route.pv, Iv.pv, dInt_c, dStr_c, List.length_cons, List.length_nil, Nat.zero_add, Nat.reduceAdd, chk_beq, chk_t, br_t, br_f, bi_s, unRoutes_map, unIvs_map, List.drop_zero, Nat.sub_zero, ← List.map_take, ← List.map_drop, ← List.map_append, List.nil_append, Int.toNat_natCast, List.length_map, widthOk_map Route.pv_len, flatL_map Route.pv_flat, Bool.true_and, Bool.and_true, lit1, litc, clim_t]
      rw [decide_eq_true (show (0 : Int) ≤ i by omega), decide_eq_true (show (i : Int) ≤ rs.length by omega), decide_eq_true (show (0 : Int) ≤ ((i + 1 : Nat) : Int) by omega), decide_eq_true (show ((i + 1 : Nat) : Int) ≤ rs.length by omega), decide_eq_true (show (rs.length : Int) ≤ rs.length by omega), slice_c rs (i + 1) rs.length rfl]
      simp (disch := first | omega | (simp only [List.length_append, List.length_map, List.length_take, List.length_drop, List.length_cons, List.length_nil]; omega)) only [Route.pv, Iv.pv, dInt_c, dStr_c, List.length_cons, List.length_nil, Nat.zero_add, Nat.reduceAdd, chk_beq, chk_t, br_t, br_f, bi_s, unRoutes_map, unIvs_map, List.drop_zero, Nat.sub_zero, ← List.map_take, ← List.map_drop, ← List.map_append, List.nil_append, Int.toNat_natCast, List.length_map, widthOk_map Route.pv_len, flatL_map Route.pv_flat, Bool.true_and, Bool.and_true, lit1, litc, clim_t, Bool.and_self]
      have e : rs.take i ++ [⟨y, rs[i].low, key⟩, ⟨z, key, rs[i].high⟩] ++ rs.drop (i + 1) = splitC rs i key y z := by unfold splitC; rw [rAt_get hi]
      have e2 : (rAt rs i).iv = ⟨rs[i].low, rs[i].high⟩ := by rw [rAt_get hi]; rfl
      rw [e, e2]
      cases cutOk ⟨rs[i].low, rs[i].high⟩ key <;> cases routesOk (splitC rs i key y z) <;> rfl
def spec_SplitRoute_sm : Smr := ⟨[false, false, false, false, false], fun R args mem k => match nilAVs args, mem with
  | [.d (.ls xs), .d (.int .i64 x), .d (.str key), .d (.int .i64 y), .d (.int .i64 z)], [] => bi (unRoutes xs) fun rs => chk (decide (rs.length ≤ 1048576)) (k (.tup [.sl 0, .d (.bool ((splitR rs x key y z).2))]) [.ar 3 0 ((splitR rs x key y z).1.map Route.pv)])
  | _, _ => none⟩

theorem spec_SplitRoute_ok : SmrOK Try.prog 36 spec_SplitRoute_sm := by
  intro R args mem k r h
  simp only [spec_SplitRoute_sm] at h
  generalize hA : nilAVs args = args' at h
  split at h
  · rename_i xs x key y z
    obtain ⟨rs, hd0, h1⟩ := bi_eq h
    have hd0 := unRoutes_eq hd0
    subst hd0
    obtain ⟨hp1, h2⟩ := chk_eq h1
    replace h := h2
    refine ⟨_, _, Spec.nl hA (spec_of_run tt_ok mixed (spec_SplitRoute_C_Γ 0) Try.func36 (by kernel_rfl) (mem := []) (Nat.le_of_ble_eq_true (by kernel_rfl)) (spec_SplitRoute_C_Λ 0) ((spec_SplitRoute_run 0 (rs.map Route.pv) x key y z _).trans ((spec_SplitRoute_ceq 0 x key y z rs _ hp1).trans ?_))), h⟩
    rfl
  · cases h

def Γ_spec_SplitRoute : FuncId → Option Smr := Γc 36 spec_SplitRoute_sm Γ_impl_MasterValid
theorem Γ_spec_SplitRoute_ok : ∀ f s, Γ_spec_SplitRoute f = some s → SmrOK Try.prog f s := Γc_ok spec_SplitRoute_ok Γ_impl_MasterValid_ok


/- spec.MergeRoutes -/

def spec_MergeRoutes_c {R : Type} (N : Nat) (xs : List (List PV)) (x : Int) (y : Int) (k : AV → List AB → Option R) : Option R :=
  bi (unRoutes xs) fun rs1 =>
  br (!(routesOk rs1))
  (k (.tup [.sl 0, .d (.bool false)]) [.ar 3 0 ([] : List (List PV))])
  (bi (unRoutes xs) fun rs2 =>
   chk (decide (rs2.length ≤ 1048576))
   (br (decide ((idx (rIndex rs2 x)) < 0))
    (chk (widthOk 3 xs && clim (0 + xs.length) 40)
     (chk (flatL xs)
      (k (.tup [.sl 0, .d (.bool false)]) [.ar 3 0 xs])))
    (br ((idx (rIndex rs2 x)) == (IntKind.i64.wrap ((xs.length : Int) - 1)))
     (chk (widthOk 3 xs && clim (0 + xs.length) 40)
      (chk (flatL xs)
       (k (.tup [.sl 0, .d (.bool false)]) [.ar 3 0 xs])))
     (getC xs (idx (rIndex rs2 x)) fun x3 =>
      dInt .i64 x3 fun n5 r4 => dStr r4 fun s7 r6 => dStr r6 fun s9 r8 =>
      chk (Nat.beq x3.length 3)
      (getC xs (IntKind.i64.wrap ((idx (rIndex rs2 x)) + 1)) fun x10 =>
       dInt .i64 x10 fun n12 r11 => dStr r11 fun s14 r13 => dStr r13 fun s16 r15 =>
       chk (Nat.beq x10.length 3)
       (br (joinOk ⟨s7, s9⟩ ⟨s14, s16⟩)
        (chk (widthOk 3 xs)
         (chk (decide (0 ≤ (idx (rIndex rs2 x))) && decide ((idx (rIndex rs2 x)) ≤ (xs.length : Int)))
          (chk (widthOk 3 ((xs.drop 0).take (((idx (rIndex rs2 x)).toNat) - 0)) && clim (0 + ((xs.drop 0).take (((idx (rIndex rs2 x)).toNat) - 0)).length) 40)
           (chk (flatL ((xs.drop 0).take (((idx (rIndex rs2 x)).toNat) - 0)))
            (chk (clim (((xs.drop 0).take (((idx (rIndex rs2 x)).toNat) - 0)).length + 1) 40)
             (chk (widthOk 3 xs)
              (chk (decide (0 ≤ IntKind.i64.wrap ((idx (rIndex rs2 x)) + 2)) && decide (IntKind.i64.wrap ((idx (rIndex rs2 x)) + 2) ≤ (xs.length : Int)) && decide ((xs.length : Int) ≤ (xs.length : Int)))
               (chk (widthOk 3 ((xs.drop ((IntKind.i64.wrap ((idx (rIndex rs2 x)) + 2)).toNat)).take (((xs.length : Int).toNat) - ((IntKind.i64.wrap ((idx (rIndex rs2 x)) + 2)).toNat))) && clim ((((xs.drop 0).take (((idx (rIndex rs2 x)).toNat) - 0)) ++ ([[.int .i64 y, .str s7, .str s16]] : List (List PV))).length + ((xs.drop ((IntKind.i64.wrap ((idx (rIndex rs2 x)) + 2)).toNat)).take (((xs.length : Int).toNat) - ((IntKind.i64.wrap ((idx (rIndex rs2 x)) + 2)).toNat))).length) 40)
                (chk (flatL ((xs.drop ((IntKind.i64.wrap ((idx (rIndex rs2 x)) + 2)).toNat)).take (((xs.length : Int).toNat) - ((IntKind.i64.wrap ((idx (rIndex rs2 x)) + 2)).toNat))))
                 (bi (unRoutes ((((xs.drop 0).take (((idx (rIndex rs2 x)).toNat) - 0)) ++ ([[.int .i64 y, .str s7, .str s16]] : List (List PV))) ++ ((xs.drop ((IntKind.i64.wrap ((idx (rIndex rs2 x)) + 2)).toNat)).take (((xs.length : Int).toNat) - ((IntKind.i64.wrap ((idx (rIndex rs2 x)) + 2)).toNat))))) fun rs17 =>
                  br (!(routesOk rs17))
                  (chk (widthOk 3 xs && clim (0 + xs.length) 40)
                   (chk (flatL xs)
                    (k (.tup [.sl 0, .d (.bool false)]) [.ar 3 0 xs])))
                  (k (.tup [.sl 0, .d (.bool true)]) [.ar 3 0 ((((xs.drop 0).take (((idx (rIndex rs2 x)).toNat) - 0)) ++ ([[.int .i64 y, .str s7, .str s16]] : List (List PV))) ++ ((xs.drop ((IntKind.i64.wrap ((idx (rIndex rs2 x)) + 2)).toNat)).take (((xs.length : Int).toNat) - ((IntKind.i64.wrap ((idx (rIndex rs2 x)) + 2)).toNat))))])))))))))))
        (chk (widthOk 3 xs)
         (chk (decide (0 ≤ (idx (rIndex rs2 x))) && decide ((idx (rIndex rs2 x)) ≤ (xs.length : Int)))
          (chk (widthOk 3 ((xs.drop 0).take (((idx (rIndex rs2 x)).toNat) - 0)) && clim (0 + ((xs.drop 0).take (((idx (rIndex rs2 x)).toNat) - 0)).length) 40)
           (chk (flatL ((xs.drop 0).take (((idx (rIndex rs2 x)).toNat) - 0)))
            (chk (clim (((xs.drop 0).take (((idx (rIndex rs2 x)).toNat) - 0)).length + 1) 40)
             (chk (widthOk 3 xs)
              (chk (decide (0 ≤ IntKind.i64.wrap ((idx (rIndex rs2 x)) + 2)) && decide (IntKind.i64.wrap ((idx (rIndex rs2 x)) + 2) ≤ (xs.length : Int)) && decide ((xs.length : Int) ≤ (xs.length : Int)))
               (chk (widthOk 3 ((xs.drop ((IntKind.i64.wrap ((idx (rIndex rs2 x)) + 2)).toNat)).take (((xs.length : Int).toNat) - ((IntKind.i64.wrap ((idx (rIndex rs2 x)) + 2)).toNat))) && clim ((((xs.drop 0).take (((idx (rIndex rs2 x)).toNat) - 0)) ++ ([[.int .i64 y, .str ⟨#[]⟩, .str ⟨#[]⟩]] : List (List PV))).length + ((xs.drop ((IntKind.i64.wrap ((idx (rIndex rs2 x)) + 2)).toNat)).take (((xs.length : Int).toNat) - ((IntKind.i64.wrap ((idx (rIndex rs2 x)) + 2)).toNat))).length) 40)
                (chk (flatL ((xs.drop ((IntKind.i64.wrap ((idx (rIndex rs2 x)) + 2)).toNat)).take (((xs.length : Int).toNat) - ((IntKind.i64.wrap ((idx (rIndex rs2 x)) + 2)).toNat))))
                 (bi (unRoutes ((((xs.drop 0).take (((idx (rIndex rs2 x)).toNat) - 0)) ++ ([[.int .i64 y, .str ⟨#[]⟩, .str ⟨#[]⟩]] : List (List PV))) ++ ((xs.drop ((IntKind.i64.wrap ((idx (rIndex rs2 x)) + 2)).toNat)).take (((xs.length : Int).toNat) - ((IntKind.i64.wrap ((idx (rIndex rs2 x)) + 2)).toNat))))) fun rs18 =>
                  br (!(routesOk rs18))
                  (chk (widthOk 3 xs && clim (0 + xs.length) 40)
                   (chk (flatL xs)
                    (k (.tup [.sl 0, .d (.bool false)]) [.ar 3 0 xs])))
                  (k (.tup [.sl 0, .d (.bool true)]) [.ar 3 0 ((((xs.drop 0).take (((idx (rIndex rs2 x)).toNat) - 0)) ++ ([[.int .i64 y, .str ⟨#[]⟩, .str ⟨#[]⟩]] : List (List PV))) ++ ((xs.drop ((IntKind.i64.wrap ((idx (rIndex rs2 x)) + 2)).toNat)).take (((xs.length : Int).toNat) - ((IntKind.i64.wrap ((idx (rIndex rs2 x)) + 2)).toNat))))])))))))))))))))))

def spec_MergeRoutes_dr7 : List DI := [⟨0, 0, [10, 34, 38, 39, 40, 41, 42, 43], [], 2⟩, ⟨1, 0, [10, 33, 38, 39, 40, 41, 42, 43], [], 2⟩, ⟨2, 3, [10, 38, 39, 40, 41, 42, 43], [], 2⟩, ⟨3, 7, [10, 38, 39, 40, 41, 42, 43], [], 2⟩, ⟨4, 15, [10, 38, 39, 40, 41, 42, 43], [], 2⟩, ⟨5, 0, [10, 33, 34, 35, 36, 37, 39, 40], [], 2⟩, ⟨6, 0, [10, 33, 34, 35, 36, 37, 38], [], 2⟩, ⟨7, 64, [10, 33, 34, 35, 36, 37, 38], [], 2⟩, ⟨8, 224, [10, 33, 34, 35, 36, 37], [], 2⟩, ⟨9, 480, [10, 33, 34, 35, 36, 37], [], 2⟩, ⟨10, 992, [10, 33, 34, 35, 36, 37], [], 2⟩, ⟨11, 2047, [10], [], 0⟩, ⟨12, 4095, [10], [], 2⟩, ⟨13, 8191, [10, 46], [], 2⟩, ⟨14, 8191, [10, 45], [], 2⟩, ⟨15, 0, [32, 33, 34, 35, 36, 37, 38, 39, 40, 41, 42, 43, 44, 45, 46], [], 1⟩, ⟨16, 49151, [46], [], 2⟩, ⟨17, 131071, [], [], 2⟩]

def spec_MergeRoutes_C (N : Nat) : CC := ⟨Γ_spec_SplitRoute, Λ0, (Δc 7 spec_MergeRoutes_dr7 Δ0), Μ0⟩

theorem spec_MergeRoutes_C_Γ (N : Nat) : ∀ f s, (spec_MergeRoutes_C N).Γ f = some s → SmrOK Try.prog f s := Γ_spec_SplitRoute_ok

theorem spec_MergeRoutes_C_Λ (N : Nat) : ∀ c, Try.f38.body = some c → ∀ b ∈ loopsIn c, ∀ s, (spec_MergeRoutes_C N).Λ (lid b) = some s → LOK Try.prog Try.f38.ntmps 0 b s :=
  LOKs_ofF (bs := []) (by kernel_rfl) LOKs_n

theorem spec_MergeRoutes_run {R : Type} (N : Nat) (xs : List (List PV)) (x : Int) (y : Int) (k : AV → List AB → Option R) :
    cfunN tt (spec_MergeRoutes_C N) Try.f38 0 [.d (.ls xs), .d (.int .i64 x), .d (.int .i64 y)] [] k = spec_MergeRoutes_c N xs x y k := by kernel_rfl

theorem spec_MergeRoutes_ceq {R : Type} (N : Nat) (x : Int) (y : Int) (rs : List Route) (k : AV → List AB → Option R) (hp1 : (decide (rs.length ≤ 1048576)) = true) :
    spec_MergeRoutes_c N (rs.map Route.pv) x y k = k (.tup [.sl 0, .d (.bool ((mergeR rs x y).2))]) [.ar 3 0 ((mergeR rs x y).1.map Route.pv)] := by
  simp only [spec_MergeRoutes_c, Route.pv, Iv.pv, dInt_c, dStr_c, List.length_cons, List.length_nil, Nat.zero_add, Nat.reduceAdd, chk_beq, chk_t, br_t, br_f, bi_s, unRoutes_map, unIvs_map, hp1]
  unfold mergeR
  cases hr : routesOk rs
  · rfl
  · have hl := routes_len hr
    simp only [Bool.not_true, br_f, if_true]
    cases hx : rIndex rs x with
    | none =>
      rw [idx_n, neg1]
      simp (disch := first | omega | (simp only [List.length_append, List.length_map, List.length_take, List.length_drop, List.length_cons, List.length_nil]; omega)) only [clim_t, List.drop_zero, Nat.sub_zero, ← List.map_take, ← List.map_drop, ← List.map_append, List.nil_append, Int.toNat_natCast, List.length_map, widthOk_map Route.pv_len, flatL_map Route.pv_flat, Bool.true_and, Bool.and_true, lit1, litc, Route.pv, Iv.pv, dInt_c, dStr_c, List.length_cons, List.length_nil, Nat.zero_add, Nat.reduceAdd, chk_beq, chk_t, br_t, br_f, bi_s, unRoutes_map, unIvs_map]
    | some i =>
      have hi := rIndex_lt hx
      simp only [List.length_map]
      rw [idx_s, decide_eq_false (show ¬ (i : Int) < 0 by omega), br_f, wrap_id (n := (rs.length : Int) - 1) (by omega) (by omega)]
      by_cases hj : i + 1 < rs.length
      · rw [show ((i : Int) == (rs.length : Int) - 1) = false by simp; omega, br_f, getC_map hi, wrap_s (by omega)]
        simp only [Route.pv, Iv.pv, dInt_c, dStr_c, List.length_cons, List.length_nil, Nat.zero_add, Nat.reduceAdd, chk_beq, chk_t, br_t, br_f, bi_s, unRoutes_map, unIvs_map]
        rw [getC_map hj]
        have hjo := routes_join hr hj
        rw [rAt_get hi, rAt_get hj] at hjo
        have e3 : IntKind.i64.wrap ((i : Int) + 2) = ((i + 2 : Nat) : Int) := by rw [wrap_id (by omega) (by omega)]; rfl
        simp only [Route.pv, Iv.pv, dInt_c, dStr_c, List.length_cons, List.length_nil, Nat.zero_add, Nat.reduceAdd, chk_beq, chk_t, br_t, br_f, bi_s, unRoutes_map, unIvs_map]
        rw [show joinOk ⟨rs[i].low, rs[i].high⟩ ⟨rs[i + 1].low, rs[i + 1].high⟩ = true from hjo, br_t, e3]
        simp (disch := first | omega | (simp only [List.length_append, List.length_map, List.length_take, List.length_drop, List.length_cons, List.length_nil]; omega)) only [Route.pv, Iv.pv, dInt_c, dStr_c, List.length_cons, List.length_nil, Nat.zero_add, Nat.reduceAdd, chk_beq, chk_t, br_t, br_f, bi_s, unRoutes_map, unIvs_map, List.drop_zero, Nat.sub_zero, ← List.map_take, ← List.map_drop, ← List.map_append, List.nil_append, Int.toNat_natCast, List.length_map, widthOk_map Route.pv_len, flatL_map Route.pv_flat, Bool.true_and, Bool.and_true, lit1, litc, clim_t]
        rw [decide_eq_true (show (0 : Int) ≤ i by omega), decide_eq_true (show (i : Int) ≤ rs.length by omega), decide_eq_true (show (0 : Int) ≤ ((i + 2 : Nat) : Int) by omega), decide_eq_true (show ((i + 2 : Nat) : Int) ≤ rs.length by omega), decide_eq_true (show (rs.length : Int) ≤ rs.length by omega), slice_c rs (i + 2) rs.length rfl]
        simp (disch := first | omega | (simp only [List.length_append, List.length_map, List.length_take, List.length_drop, List.length_cons, List.length_nil]; omega)) only [Route.pv, Iv.pv, dInt_c, dStr_c, List.length_cons, List.length_nil, Nat.zero_add, Nat.reduceAdd, chk_beq, chk_t, br_t, br_f, bi_s, unRoutes_map, unIvs_map, List.drop_zero, Nat.sub_zero, ← List.map_take, ← List.map_drop, ← List.map_append, List.nil_append, Int.toNat_natCast, List.length_map, widthOk_map Route.pv_len, flatL_map Route.pv_flat, Bool.true_and, Bool.and_true, lit1, litc, clim_t, Bool.and_self]
        have e : rs.take i ++ [⟨y, rs[i].low, rs[i + 1].high⟩] ++ rs.drop (i + 2) = mergeC rs i y := by unfold mergeC; rw [rAt_get hi, rAt_get hj]
        rw [e, decide_eq_true hj]
        cases routesOk (mergeC rs i y) <;> rfl
      · rw [show ((i : Int) == (rs.length : Int) - 1) = true by simp; omega, br_t, decide_eq_false hj]
        simp (disch := first | omega | (simp only [List.length_append, List.length_map, List.length_take, List.length_drop, List.length_cons, List.length_nil]; omega)) only [clim_t, List.drop_zero, Nat.sub_zero, ← List.map_take, ← List.map_drop, ← List.map_append, List.nil_append, Int.toNat_natCast, List.length_map, widthOk_map Route.pv_len, flatL_map Route.pv_flat, Bool.true_and, Bool.and_true, lit1, litc, Route.pv, Iv.pv, dInt_c, dStr_c, List.length_cons, List.length_nil, Nat.zero_add, Nat.reduceAdd, chk_beq, chk_t, br_t, br_f, bi_s, unRoutes_map, unIvs_map]
        rfl
def spec_MergeRoutes_sm : Smr := ⟨[false, false, false], fun R args mem k => match nilAVs args, mem with
  | [.d (.ls xs), .d (.int .i64 x), .d (.int .i64 y)], [] => bi (unRoutes xs) fun rs => chk (decide (rs.length ≤ 1048576)) (k (.tup [.sl 0, .d (.bool ((mergeR rs x y).2))]) [.ar 3 0 ((mergeR rs x y).1.map Route.pv)])
  | _, _ => none⟩

theorem spec_MergeRoutes_ok : SmrOK Try.prog 38 spec_MergeRoutes_sm := by
  intro R args mem k r h
  simp only [spec_MergeRoutes_sm] at h
  generalize hA : nilAVs args = args' at h
  split at h
  · rename_i xs x y
    obtain ⟨rs, hd0, h1⟩ := bi_eq h
    have hd0 := unRoutes_eq hd0
    subst hd0
    obtain ⟨hp1, h2⟩ := chk_eq h1
    replace h := h2
    refine ⟨_, _, Spec.nl hA (spec_of_run tt_ok mixed (spec_MergeRoutes_C_Γ 0) Try.func38 (by kernel_rfl) (mem := []) (Nat.le_of_ble_eq_true (by kernel_rfl)) (spec_MergeRoutes_C_Λ 0) ((spec_MergeRoutes_run 0 (rs.map Route.pv) x y _).trans ((spec_MergeRoutes_ceq 0 x y rs _ hp1).trans ?_))), h⟩
    rfl
  · cases h

def Γ_spec_MergeRoutes : FuncId → Option Smr := Γc 38 spec_MergeRoutes_sm Γ_spec_SplitRoute
theorem Γ_spec_MergeRoutes_ok : ∀ f s, Γ_spec_MergeRoutes f = some s → SmrOK Try.prog f s := Γc_ok spec_MergeRoutes_ok Γ_spec_SplitRoute_ok


/- impl.copyOf[impl.Route] -/

def impl_copyOf_impl_Route_c {R : Type} (N : Nat) (xs : List (List PV)) (k : AV → List AB → Option R) : Option R :=
  chk (widthOk 3 xs && clim xs.length 40)
  (chk (flatL xs)
   (k (.sl 0) [.ar 3 0 xs]))

def impl_copyOf_impl_Route_C (N : Nat) : CC := ⟨Γ_spec_MergeRoutes, Λ0, Δ0, Μ0⟩

theorem impl_copyOf_impl_Route_C_Γ (N : Nat) : ∀ f s, (impl_copyOf_impl_Route_C N).Γ f = some s → SmrOK Try.prog f s := Γ_spec_MergeRoutes_ok

theorem impl_copyOf_impl_Route_C_Λ (N : Nat) : ∀ c, Try.f84.body = some c → ∀ b ∈ loopsIn c, ∀ s, (impl_copyOf_impl_Route_C N).Λ (lid b) = some s → LOK Try.prog Try.f84.ntmps 0 b s :=
  LOKs_ofF (bs := []) (by kernel_rfl) LOKs_n

theorem impl_copyOf_impl_Route_run {R : Type} (N : Nat) (xs : List (List PV)) (k : AV → List AB → Option R) :
    cfunN tt (impl_copyOf_impl_Route_C N) Try.f84 0 [.d (.ls xs)] [] k = impl_copyOf_impl_Route_c N xs k := by kernel_rfl

theorem impl_copyOf_impl_Route_ceq {R : Type} (N : Nat) (rs : List Route) (k : AV → List AB → Option R) (hp1 : (decide (rs.length ≤ 1048576)) = true) :
    impl_copyOf_impl_Route_c N (rs.map Route.pv) k = k (.sl 0) [.ar 3 0 (rs.map Route.pv)] := by
  simp only [decide_eq_true_eq] at hp1
  simp (disch := first | omega | (simp only [List.length_append, List.length_map, List.length_take, List.length_drop, List.length_cons, List.length_nil]; omega)) only [impl_copyOf_impl_Route_c, clim_t, List.drop_zero, Nat.sub_zero, ← List.map_take, ← List.map_drop, ← List.map_append, List.nil_append, Int.toNat_natCast, List.length_map, widthOk_map Route.pv_len, flatL_map Route.pv_flat, Bool.true_and, Bool.and_true, lit1, litc, Route.pv, Iv.pv, dInt_c, dStr_c, List.length_cons, List.length_nil, Nat.zero_add, Nat.reduceAdd, chk_beq, chk_t, br_t, br_f, bi_s, unRoutes_map, unIvs_map]
def impl_copyOf_impl_Route_sm : Smr := ⟨[false], fun R args mem k => match nilAVs args, mem with
  | [.d (.ls xs)], [] => bi (unRoutes xs) fun rs => chk (decide (rs.length ≤ 1048576)) (k (.sl 0) [.ar 3 0 (rs.map Route.pv)])
  | _, _ => none⟩

theorem impl_copyOf_impl_Route_ok : SmrOK Try.prog 84 impl_copyOf_impl_Route_sm := by
  intro R args mem k r h
  simp only [impl_copyOf_impl_Route_sm] at h
  generalize hA : nilAVs args = args' at h
  split at h
  · rename_i xs
    obtain ⟨rs, hd0, h1⟩ := bi_eq h
    have hd0 := unRoutes_eq hd0
    subst hd0
    obtain ⟨hp1, h2⟩ := chk_eq h1
    replace h := h2
    refine ⟨_, _, Spec.nl hA (spec_of_run tt_ok mixed (impl_copyOf_impl_Route_C_Γ 0) Try.func84 (by kernel_rfl) (mem := []) (Nat.le_of_ble_eq_true (by kernel_rfl)) (impl_copyOf_impl_Route_C_Λ 0) ((impl_copyOf_impl_Route_run 0 (rs.map Route.pv) _).trans ((impl_copyOf_impl_Route_ceq 0 rs _ hp1).trans ?_))), h⟩
    rfl
  · cases h

def Γ_impl_copyOf_impl_Route : FuncId → Option Smr := Γc 84 impl_copyOf_impl_Route_sm Γ_spec_MergeRoutes
theorem Γ_impl_copyOf_impl_Route_ok : ∀ f s, Γ_impl_copyOf_impl_Route f = some s → SmrOK Try.prog f s := Γc_ok impl_copyOf_impl_Route_ok Γ_spec_MergeRoutes_ok


/- impl.copyMaster -/

def impl_copyMaster_c {R : Type} (N : Nat) (xs : List (List PV)) (sh : Int) (pk : Int) (pf : Int) (ps : Int) (pb : ByteArray) (pr : Int) (pt : Int) (pe : Int) (tn : Int) (k : AV → List AB → Option R) : Option R :=
  bi (unRoutes xs) fun rs1 =>
  chk (decide (rs1.length ≤ 1048576))
  (k (.agg [.sl 0, .d (.int .i64 sh), .d (.int .i64 pk), .d (.int .i64 pf), .d (.int .i64 ps), .d (.str pb), .d (.int .i64 pr), .d (.int .i64 pt), .d (.int .i64 pe), .d (.int .i64 tn)]) [.ar 3 0 (rs1.map Route.pv)])

def impl_copyMaster_C (N : Nat) : CC := ⟨Γ_impl_copyOf_impl_Route, Λ0, Δ0, Μ0⟩

theorem impl_copyMaster_C_Γ (N : Nat) : ∀ f s, (impl_copyMaster_C N).Γ f = some s → SmrOK Try.prog f s := Γ_impl_copyOf_impl_Route_ok

theorem impl_copyMaster_C_Λ (N : Nat) : ∀ c, Try.f42.body = some c → ∀ b ∈ loopsIn c, ∀ s, (impl_copyMaster_C N).Λ (lid b) = some s → LOK Try.prog Try.f42.ntmps 0 b s :=
  LOKs_ofF (bs := []) (by kernel_rfl) LOKs_n

theorem impl_copyMaster_run {R : Type} (N : Nat) (xs : List (List PV)) (sh : Int) (pk : Int) (pf : Int) (ps : Int) (pb : ByteArray) (pr : Int) (pt : Int) (pe : Int) (tn : Int) (k : AV → List AB → Option R) :
    cfunN tt (impl_copyMaster_C N) Try.f42 0 [.agg [.d (.ls xs), .d (.int .i64 sh), .d (.int .i64 pk), .d (.int .i64 pf), .d (.int .i64 ps), .d (.str pb), .d (.int .i64 pr), .d (.int .i64 pt), .d (.int .i64 pe), .d (.int .i64 tn)]] [] k = impl_copyMaster_c N xs sh pk pf ps pb pr pt pe tn k := by kernel_rfl

theorem impl_copyMaster_ceq {R : Type} (N : Nat) (sh : Int) (pk : Int) (pf : Int) (ps : Int) (pb : ByteArray) (pr : Int) (pt : Int) (pe : Int) (tn : Int) (rs : List Route) (k : AV → List AB → Option R) (hp1 : (decide (rs.length ≤ 1048576)) = true) :
    impl_copyMaster_c N (rs.map Route.pv) sh pk pf ps pb pr pt pe tn k = k (.agg [.sl 0, .d (.int .i64 sh), .d (.int .i64 pk), .d (.int .i64 pf), .d (.int .i64 ps), .d (.str pb), .d (.int .i64 pr), .d (.int .i64 pt), .d (.int .i64 pe), .d (.int .i64 tn)]) [.ar 3 0 (rs.map Route.pv)] := by
  simp only [impl_copyMaster_c, Route.pv, Iv.pv, dInt_c, dStr_c, List.length_cons, List.length_nil, Nat.zero_add, Nat.reduceAdd, chk_beq, chk_t, br_t, br_f, bi_s, unRoutes_map, unIvs_map, hp1]
def impl_copyMaster_sm : Smr := ⟨[false], fun R args mem k => match nilAVs args, mem with
  | [.agg [.d (.ls xs), .d (.int .i64 sh), .d (.int .i64 pk), .d (.int .i64 pf), .d (.int .i64 ps), .d (.str pb), .d (.int .i64 pr), .d (.int .i64 pt), .d (.int .i64 pe), .d (.int .i64 tn)]], [] => bi (unRoutes xs) fun rs => chk (decide (rs.length ≤ 1048576)) (k (.agg [.sl 0, .d (.int .i64 sh), .d (.int .i64 pk), .d (.int .i64 pf), .d (.int .i64 ps), .d (.str pb), .d (.int .i64 pr), .d (.int .i64 pt), .d (.int .i64 pe), .d (.int .i64 tn)]) [.ar 3 0 (rs.map Route.pv)])
  | _, _ => none⟩

theorem impl_copyMaster_ok : SmrOK Try.prog 42 impl_copyMaster_sm := by
  intro R args mem k r h
  simp only [impl_copyMaster_sm] at h
  generalize hA : nilAVs args = args' at h
  split at h
  · rename_i xs sh pk pf ps pb pr pt pe tn
    obtain ⟨rs, hd0, h1⟩ := bi_eq h
    have hd0 := unRoutes_eq hd0
    subst hd0
    obtain ⟨hp1, h2⟩ := chk_eq h1
    replace h := h2
    refine ⟨_, _, Spec.nl hA (spec_of_run tt_ok mixed (impl_copyMaster_C_Γ 0) Try.func42 (by kernel_rfl) (mem := []) (Nat.le_of_ble_eq_true (by kernel_rfl)) (impl_copyMaster_C_Λ 0) ((impl_copyMaster_run 0 (rs.map Route.pv) sh pk pf ps pb pr pt pe tn _).trans ((impl_copyMaster_ceq 0 sh pk pf ps pb pr pt pe tn rs _ hp1).trans ?_))), h⟩
    rfl
  · cases h

def Γ_impl_copyMaster : FuncId → Option Smr := Γc 42 impl_copyMaster_sm Γ_impl_copyOf_impl_Route
theorem Γ_impl_copyMaster_ok : ∀ f s, Γ_impl_copyMaster f = some s → SmrOK Try.prog f s := Γc_ok impl_copyMaster_ok Γ_impl_copyOf_impl_Route_ok


/- impl.replaced[impl.Route] -/

def impl_replaced_impl_Route_c {R : Type} (N : Nat) (xs : List (List PV)) (ai : Int) (many : Int) (ys : List (List PV)) (k : AV → List AB → Option R) : Option R :=
  bnd (IntKind.i64.wrap ((IntKind.i64.wrap ((xs.length : Int) - many)) + (ys.length : Int))) fun i1 =>
  chk (decide (0 ≤ i1) && decide (i1 * 40 ≤ 140737488355328) && decide (i1 ≤ 140737488355328))
  (chk (widthOk 3 xs)
   (chk (decide (0 ≤ ai) && decide (ai ≤ (xs.length : Int)))
    (chk (widthOk 3 ((xs.drop 0).take (ai.toNat - 0)) && clim (0 + ((xs.drop 0).take (ai.toNat - 0)).length) 40)
     (chk (flatL ((xs.drop 0).take (ai.toNat - 0)))
      (chk (widthOk 3 ys && clim (((xs.drop 0).take (ai.toNat - 0)).length + ys.length) 40)
       (chk (flatL ys)
        (chk (widthOk 3 xs)
         (chk (decide (0 ≤ IntKind.i64.wrap (ai + many)) && decide (IntKind.i64.wrap (ai + many) ≤ (xs.length : Int)) && decide ((xs.length : Int) ≤ (xs.length : Int)))
          (chk (widthOk 3 ((xs.drop ((IntKind.i64.wrap (ai + many)).toNat)).take (((xs.length : Int).toNat) - ((IntKind.i64.wrap (ai + many)).toNat))) && clim ((((xs.drop 0).take (ai.toNat - 0)) ++ ys).length + ((xs.drop ((IntKind.i64.wrap (ai + many)).toNat)).take (((xs.length : Int).toNat) - ((IntKind.i64.wrap (ai + many)).toNat))).length) 40)
           (chk (flatL ((xs.drop ((IntKind.i64.wrap (ai + many)).toNat)).take (((xs.length : Int).toNat) - ((IntKind.i64.wrap (ai + many)).toNat))))
            (k (.sl 0) [.ar 3 0 ((((xs.drop 0).take (ai.toNat - 0)) ++ ys) ++ ((xs.drop ((IntKind.i64.wrap (ai + many)).toNat)).take (((xs.length : Int).toNat) - ((IntKind.i64.wrap (ai + many)).toNat))))])))))))))))

def impl_replaced_impl_Route_C (N : Nat) : CC := ⟨Γ_impl_copyMaster, Λ0, Δ0, Μ0⟩

theorem impl_replaced_impl_Route_C_Γ (N : Nat) : ∀ f s, (impl_replaced_impl_Route_C N).Γ f = some s → SmrOK Try.prog f s := Γ_impl_copyMaster_ok

theorem impl_replaced_impl_Route_C_Λ (N : Nat) : ∀ c, Try.f121.body = some c → ∀ b ∈ loopsIn c, ∀ s, (impl_replaced_impl_Route_C N).Λ (lid b) = some s → LOK Try.prog Try.f121.ntmps 0 b s :=
  LOKs_ofF (bs := []) (by kernel_rfl) LOKs_n

theorem impl_replaced_impl_Route_run {R : Type} (N : Nat) (xs : List (List PV)) (ai : Int) (many : Int) (ys : List (List PV)) (k : AV → List AB → Option R) :
    cfunN tt (impl_replaced_impl_Route_C N) Try.f121 0 [.d (.ls xs), .d (.int .i64 ai), .d (.int .i64 many), .d (.ls ys)] [] k = impl_replaced_impl_Route_c N xs ai many ys k := by kernel_rfl

theorem impl_replaced_impl_Route_ceq {R : Type} (N : Nat) (ai : Int) (many : Int) (rs : List Route) (us : List Route) (k : AV → List AB → Option R) (hp1 : (decide (rs.length ≤ 1048576)) = true) (hp2 : (decide (us.length ≤ 1048576)) = true) (hp3 : (decide (0 ≤ ai) && decide (0 ≤ many) && decide (ai + many ≤ rs.length)) = true) :
    impl_replaced_impl_Route_c N (rs.map Route.pv) ai many (us.map Route.pv) k = k (.sl 0) [.ar 3 0 ((rs.take ai.toNat ++ us ++ rs.drop (ai + many).toNat).map Route.pv)] := by
  simp only [decide_eq_true_eq, Bool.and_eq_true] at hp1 hp2 hp3
  simp only [impl_replaced_impl_Route_c, bnd, List.length_map]
  rw [wrap_id (n := (rs.length : Int) - many) (by omega) (by omega), wrap_id (n := (rs.length : Int) - many + us.length) (by omega) (by omega), wrap_id (n := ai + many) (by omega) (by omega)]
  rw [decide_eq_true (show (0 : Int) ≤ (rs.length : Int) - many + us.length by omega), decide_eq_true (show ((rs.length : Int) - many + us.length) * 40 ≤ 140737488355328 by omega), decide_eq_true (show (rs.length : Int) - many + us.length ≤ 140737488355328 by omega), decide_eq_true (show (0 : Int) ≤ ai by omega), decide_eq_true (show ai ≤ (rs.length : Int) by omega), decide_eq_true (show (0 : Int) ≤ ai + many by omega), decide_eq_true (show ai + many ≤ (rs.length : Int) by omega), decide_eq_true (show (rs.length : Int) ≤ rs.length by omega)]
  simp (disch := first | omega | (simp only [List.length_append, List.length_map, List.length_take, List.length_drop, List.length_cons, List.length_nil]; omega)) only [List.drop_zero, Nat.sub_zero, ← List.map_take, ← List.map_drop, ← List.map_append, List.nil_append, Int.toNat_natCast, List.length_map, widthOk_map Route.pv_len, flatL_map Route.pv_flat, Bool.true_and, Bool.and_true, lit1, litc, Route.pv, Iv.pv, dInt_c, dStr_c, List.length_cons, List.length_nil, Nat.zero_add, Nat.reduceAdd, chk_beq, chk_t, br_t, br_f, bi_s, unRoutes_map, unIvs_map, clim_t, Bool.and_self, slice_c]
def impl_replaced_impl_Route_sm : Smr := ⟨[false, false, false, false], fun R args mem k => match nilAVs args, mem with
  | [.d (.ls xs), .d (.int .i64 ai), .d (.int .i64 many), .d (.ls ys)], [] => bi (unRoutes xs) fun rs => bi (unRoutes ys) fun us => chk (decide (rs.length ≤ 1048576)) (chk (decide (us.length ≤ 1048576)) (chk (decide (0 ≤ ai) && decide (0 ≤ many) && decide (ai + many ≤ rs.length)) (k (.sl 0) [.ar 3 0 ((rs.take ai.toNat ++ us ++ rs.drop (ai + many).toNat).map Route.pv)])))
  | _, _ => none⟩

theorem impl_replaced_impl_Route_ok : SmrOK Try.prog 121 impl_replaced_impl_Route_sm := by
  intro R args mem k r h
  simp only [impl_replaced_impl_Route_sm] at h
  generalize hA : nilAVs args = args' at h
  split at h
  · rename_i xs ai many ys
    obtain ⟨rs, hd0, h1⟩ := bi_eq h
    have hd0 := unRoutes_eq hd0
    subst hd0
    obtain ⟨us, hd1, h2⟩ := bi_eq h1
    have hd1 := unRoutes_eq hd1
    subst hd1
    obtain ⟨hp1, h3⟩ := chk_eq h2
    obtain ⟨hp2, h4⟩ := chk_eq h3
    obtain ⟨hp3, h5⟩ := chk_eq h4
    replace h := h5
    refine ⟨_, _, Spec.nl hA (spec_of_run tt_ok mixed (impl_replaced_impl_Route_C_Γ 0) Try.func121 (by kernel_rfl) (mem := []) (Nat.le_of_ble_eq_true (by kernel_rfl)) (impl_replaced_impl_Route_C_Λ 0) ((impl_replaced_impl_Route_run 0 (rs.map Route.pv) ai many (us.map Route.pv) _).trans ((impl_replaced_impl_Route_ceq 0 ai many rs us _ hp1 hp2 hp3).trans ?_))), h⟩
    rfl
  · cases h

def Γ_impl_replaced_impl_Route : FuncId → Option Smr := Γc 121 impl_replaced_impl_Route_sm Γ_impl_copyMaster
theorem Γ_impl_replaced_impl_Route_ok : ∀ f s, Γ_impl_replaced_impl_Route f = some s → SmrOK Try.prog f s := Γc_ok impl_replaced_impl_Route_ok Γ_impl_copyMaster_ok


/- impl.SplitRoute -/

def impl_SplitRoute_c {R : Type} (N : Nat) (xs : List (List PV)) (x : Int) (key : ByteArray) (y : Int) (z : Int) (k : AV → List AB → Option R) : Option R :=
  bi (unRoutes xs) fun rs1 =>
  chk (decide (rs1.length ≤ 1048576))
  (br (!(routesOk rs1))
   (k (.tup [.nil, .d (.bool false)]) [])
   (bi (unRoutes xs) fun rs2 =>
    chk (decide (rs2.length ≤ 1048576))
    (br (decide ((idx (rIndex rs2 x)) < 0))
     (bi (unRoutes xs) fun rs3 =>
      chk (decide (rs3.length ≤ 1048576))
      (k (.tup [.sl 0, .d (.bool false)]) [.ar 3 0 (rs3.map Route.pv)]))
     (getC xs (idx (rIndex rs2 x)) fun x4 =>
      dInt .i64 x4 fun n6 r5 => dStr r5 fun s8 r7 => dStr r7 fun s10 r9 =>
      chk (Nat.beq x4.length 3)
      (br (cutOk ⟨s8, s10⟩ key)
       (bi (unRoutes xs) fun rs11 =>
        bi (unRoutes ([[.int .i64 y, .str s8, .str key], [.int .i64 z, .str key, .str s10]] : List (List PV))) fun us12 =>
        chk (decide (rs11.length ≤ 1048576))
        (chk (decide (us12.length ≤ 1048576))
         (chk (decide (0 ≤ (idx (rIndex rs2 x))) && decide (0 ≤ (1 : Int)) && decide ((idx (rIndex rs2 x)) + (1 : Int) ≤ rs11.length))
          (bi (unRoutes ((rs11.take (idx (rIndex rs2 x)).toNat ++ us12 ++ rs11.drop ((idx (rIndex rs2 x)) + (1 : Int)).toNat).map Route.pv)) fun rs13 =>
           chk (decide (rs13.length ≤ 1048576))
           (br (!(routesOk rs13))
            (bi (unRoutes xs) fun rs14 =>
             chk (decide (rs14.length ≤ 1048576))
             (k (.tup [.sl 0, .d (.bool false)]) [.ar 3 0 (rs14.map Route.pv)]))
            (k (.tup [.sl 0, .d (.bool true)]) [.ar 3 0 ((rs11.take (idx (rIndex rs2 x)).toNat ++ us12 ++ rs11.drop ((idx (rIndex rs2 x)) + (1 : Int)).toNat).map Route.pv)]))))))
       (bi (unRoutes xs) fun rs15 =>
        chk (decide (rs15.length ≤ 1048576))
        (k (.tup [.sl 0, .d (.bool false)]) [.ar 3 0 (rs15.map Route.pv)])))))))

def impl_SplitRoute_C (N : Nat) : CC := ⟨Γ_impl_replaced_impl_Route, Λ0, Δ0, Μ0⟩

theorem impl_SplitRoute_C_Γ (N : Nat) : ∀ f s, (impl_SplitRoute_C N).Γ f = some s → SmrOK Try.prog f s := Γ_impl_replaced_impl_Route_ok

theorem impl_SplitRoute_C_Λ (N : Nat) : ∀ c, Try.f85.body = some c → ∀ b ∈ loopsIn c, ∀ s, (impl_SplitRoute_C N).Λ (lid b) = some s → LOK Try.prog Try.f85.ntmps 0 b s :=
  LOKs_ofF (bs := []) (by kernel_rfl) LOKs_n

theorem impl_SplitRoute_run {R : Type} (N : Nat) (xs : List (List PV)) (x : Int) (key : ByteArray) (y : Int) (z : Int) (k : AV → List AB → Option R) :
    cfunN tt (impl_SplitRoute_C N) Try.f85 0 [.d (.ls xs), .d (.int .i64 x), .d (.str key), .d (.int .i64 y), .d (.int .i64 z)] [] k = impl_SplitRoute_c N xs x key y z k := by kernel_rfl

theorem impl_SplitRoute_ceq {R : Type} (N : Nat) (x : Int) (key : ByteArray) (y : Int) (z : Int) (rs : List Route) (k : AV → List AB → Option R) (hp1 : (decide (rs.length ≤ 1048576)) = true) :
    impl_SplitRoute_c N (rs.map Route.pv) x key y z k = br (routesOk rs) (k (.tup [.sl 0, .d (.bool ((splitR rs x key y z).2))]) [.ar 3 0 ((splitR rs x key y z).1.map Route.pv)]) (k (.tup [.nil, .d (.bool false)]) []) := by
  have hp1' := hp1
  simp only [decide_eq_true_eq] at hp1'
  simp only [impl_SplitRoute_c, Route.pv, Iv.pv, dInt_c, dStr_c, List.length_cons, List.length_nil, Nat.zero_add, Nat.reduceAdd, chk_beq, chk_t, br_t, br_f, bi_s, unRoutes_map, unIvs_map, hp1]
  unfold splitR
  cases hr : routesOk rs
  · rfl
  · have hl := routes_len hr
    simp only [Bool.not_true, br_f, br_t, if_true]
    cases hx : rIndex rs x with
    | none => rfl
    | some i =>
      have hi := rIndex_lt hx
      rw [idx_s, decide_eq_false (show ¬ (i : Int) < 0 by omega), br_f, getC_map hi]
      simp only [Route.pv, Iv.pv, dInt_c, dStr_c, List.length_cons, List.length_nil, Nat.zero_add, Nat.reduceAdd, chk_beq, chk_t, br_t, br_f, bi_s, unRoutes_map, unIvs_map, lit1, litc]
      rw [decide_eq_true (show (0 : Int) ≤ i by omega), decide_eq_true (show (0 : Int) ≤ 1 by omega), decide_eq_true (show (i : Int) + 1 ≤ rs.length by omega), show ((i : Int) + 1).toNat = i + 1 by omega, lenInt]
      simp only [Route.pv, Iv.pv, dInt_c, dStr_c, List.length_cons, List.length_nil, Nat.zero_add, Nat.reduceAdd, chk_beq, chk_t, br_t, br_f, bi_s, unRoutes_map, unIvs_map, Bool.and_self, decide_true, Nat.reduceLeDiff]
      have e : rs.take i ++ [⟨y, rs[i].low, key⟩, ⟨z, key, rs[i].high⟩] ++ rs.drop (i + 1) = splitC rs i key y z := by unfold splitC; rw [rAt_get hi]
      have e2 : (rAt rs i).iv = ⟨rs[i].low, rs[i].high⟩ := by rw [rAt_get hi]; rfl
      have e3 : decide ((splitC rs i key y z).length ≤ 1048576) = true := by rw [← e]; simp only [List.length_append, List.length_map, List.length_take, List.length_drop, List.length_cons, List.length_nil, decide_eq_true_eq]; omega
      rw [e, e2, e3, chk_t]
      cases cutOk ⟨rs[i].low, rs[i].high⟩ key <;> cases routesOk (splitC rs i key y z) <;> rfl
theorem impl_SplitRoute_weq (x : Int) (key : ByteArray) (y : Int) (z : Int) (rs : List Route) (hp1 : (decide (rs.length ≤ 1048576)) = true) :
    br (routesOk rs) ((fun a m => some (wdA 3 a m)) (.tup [.sl 0, .d (.bool ((splitR rs x key y z).2))]) [.ar 3 0 ((splitR rs x key y z).1.map Route.pv)]) ((fun a m => some (wdA 3 a m)) (.tup [.nil, .d (.bool false)]) []) = some (.tup [.sl 0, .d (.bool ((splitR rs x key y z).2))], [.ar 3 0 ((splitR rs x key y z).1.map Route.pv)]) := by
  unfold splitR
  cases routesOk rs <;> rfl
def impl_SplitRoute_sm : Smr := ⟨[false, false, false, false, false], fun R args mem k => match nilAVs args, mem with
  | [.d (.ls xs), .d (.int .i64 x), .d (.str key), .d (.int .i64 y), .d (.int .i64 z)], [] => bi (unRoutes xs) fun rs => chk (decide (rs.length ≤ 1048576)) (k (.tup [.sl 0, .d (.bool ((splitR rs x key y z).2))]) [.ar 3 0 ((splitR rs x key y z).1.map Route.pv)])
  | _, _ => none⟩

theorem impl_SplitRoute_ok : SmrOK Try.prog 85 impl_SplitRoute_sm := by
  intro R args mem k r h
  simp only [impl_SplitRoute_sm] at h
  generalize hA : nilAVs args = args' at h
  split at h
  · rename_i xs x key y z
    obtain ⟨rs, hd0, h1⟩ := bi_eq h
    have hd0 := unRoutes_eq hd0
    subst hd0
    obtain ⟨hp1, h2⟩ := chk_eq h1
    replace h := h2
    refine ⟨_, _, Spec.nl hA ?_, h⟩
    have hw := impl_SplitRoute_weq x key y z rs hp1
    cases hb0 : (routesOk rs) with
    | true =>
      simp only [br, hb0] at hw
      have hs : Spec Try.prog 85 _ [] (.tup [.sl 0, .d (.bool ((splitR rs x key y z).2))]) [.ar 3 0 ((splitR rs x key y z).1.map Route.pv)] := spec_of_run tt_ok mixed (impl_SplitRoute_C_Γ 0) Try.func85 (by kernel_rfl) (mem := []) (Nat.le_of_ble_eq_true (by kernel_rfl)) (impl_SplitRoute_C_Λ 0) ((impl_SplitRoute_run 0 (rs.map Route.pv) x key y z _).trans ((impl_SplitRoute_ceq 0 x key y z rs _ hp1).trans (by simp only [br, hb0])))
      have hs := hs.wd 3 (Nat.le_of_ble_eq_true (by kernel_rfl))
      rw [Option.some.inj hw] at hs
      exact hs
    | false =>
      simp only [br, hb0] at hw
      have hs : Spec Try.prog 85 _ [] (.tup [.nil, .d (.bool false)]) [] := spec_of_run tt_ok mixed (impl_SplitRoute_C_Γ 0) Try.func85 (by kernel_rfl) (mem := []) (Nat.le_of_ble_eq_true (by kernel_rfl)) (impl_SplitRoute_C_Λ 0) ((impl_SplitRoute_run 0 (rs.map Route.pv) x key y z _).trans ((impl_SplitRoute_ceq 0 x key y z rs _ hp1).trans (by simp only [br, hb0])))
      have hs := hs.wd 3 (Nat.le_of_ble_eq_true (by kernel_rfl))
      rw [Option.some.inj hw] at hs
      exact hs
  · cases h

def Γ_impl_SplitRoute : FuncId → Option Smr := Γc 85 impl_SplitRoute_sm Γ_impl_replaced_impl_Route
theorem Γ_impl_SplitRoute_ok : ∀ f s, Γ_impl_SplitRoute f = some s → SmrOK Try.prog f s := Γc_ok impl_SplitRoute_ok Γ_impl_replaced_impl_Route_ok


/- impl.MergeRoutes -/

def impl_MergeRoutes_c {R : Type} (N : Nat) (xs : List (List PV)) (x : Int) (y : Int) (k : AV → List AB → Option R) : Option R :=
  bi (unRoutes xs) fun rs1 =>
  chk (decide (rs1.length ≤ 1048576))
  (br (!(routesOk rs1))
   (k (.tup [.nil, .d (.bool false)]) [])
   (bi (unRoutes xs) fun rs2 =>
    chk (decide (rs2.length ≤ 1048576))
    (br (decide ((idx (rIndex rs2 x)) < 0))
     (bi (unRoutes xs) fun rs3 =>
      chk (decide (rs3.length ≤ 1048576))
      (k (.tup [.sl 0, .d (.bool false)]) [.ar 3 0 (rs3.map Route.pv)]))
     (br ((idx (rIndex rs2 x)) == (IntKind.i64.wrap ((xs.length : Int) - 1)))
      (bi (unRoutes xs) fun rs4 =>
       chk (decide (rs4.length ≤ 1048576))
       (k (.tup [.sl 0, .d (.bool false)]) [.ar 3 0 (rs4.map Route.pv)]))
      (getC xs (idx (rIndex rs2 x)) fun x5 =>
       dInt .i64 x5 fun n7 r6 => dStr r6 fun s9 r8 => dStr r8 fun s11 r10 =>
       chk (Nat.beq x5.length 3)
       (getC xs (IntKind.i64.wrap ((idx (rIndex rs2 x)) + 1)) fun x12 =>
        dInt .i64 x12 fun n14 r13 => dStr r13 fun s16 r15 => dStr r15 fun s18 r17 =>
        chk (Nat.beq x12.length 3)
        (br (joinOk ⟨s9, s11⟩ ⟨s16, s18⟩)
         (bi (unRoutes xs) fun rs19 =>
          bi (unRoutes ([[.int .i64 y, .str s9, .str s18]] : List (List PV))) fun us20 =>
          chk (decide (rs19.length ≤ 1048576))
          (chk (decide (us20.length ≤ 1048576))
           (chk (decide (0 ≤ (idx (rIndex rs2 x))) && decide (0 ≤ (2 : Int)) && decide ((idx (rIndex rs2 x)) + (2 : Int) ≤ rs19.length))
            (bi (unRoutes ((rs19.take (idx (rIndex rs2 x)).toNat ++ us20 ++ rs19.drop ((idx (rIndex rs2 x)) + (2 : Int)).toNat).map Route.pv)) fun rs21 =>
             chk (decide (rs21.length ≤ 1048576))
             (br (!(routesOk rs21))
              (bi (unRoutes xs) fun rs22 =>
               chk (decide (rs22.length ≤ 1048576))
               (k (.tup [.sl 0, .d (.bool false)]) [.ar 3 0 (rs22.map Route.pv)]))
              (k (.tup [.sl 0, .d (.bool true)]) [.ar 3 0 ((rs19.take (idx (rIndex rs2 x)).toNat ++ us20 ++ rs19.drop ((idx (rIndex rs2 x)) + (2 : Int)).toNat).map Route.pv)]))))))
         (bi (unRoutes xs) fun rs23 =>
          chk (decide (rs23.length ≤ 1048576))
          (k (.tup [.sl 0, .d (.bool false)]) [.ar 3 0 (rs23.map Route.pv)])))))))))

def impl_MergeRoutes_dr6 : List DI := [⟨0, 0, [9, 31, 35, 36, 37, 38, 39, 40], [], 2⟩, ⟨1, 0, [9, 30, 35, 36, 37, 38, 39, 40], [], 2⟩, ⟨2, 3, [9, 35, 36, 37, 38, 39, 40], [], 2⟩, ⟨3, 7, [9, 35, 36, 37, 38, 39, 40], [], 2⟩, ⟨4, 15, [9, 35, 36, 37, 38, 39, 40], [], 2⟩, ⟨5, 0, [9, 30, 31, 32, 33, 34, 36, 37], [], 2⟩, ⟨6, 0, [9, 30, 31, 32, 33, 34, 35], [], 2⟩, ⟨7, 64, [9, 30, 31, 32, 33, 34, 35], [], 2⟩, ⟨8, 224, [9, 30, 31, 32, 33, 34], [], 2⟩, ⟨9, 480, [9, 30, 31, 32, 33, 34], [], 2⟩, ⟨10, 992, [9, 30, 31, 32, 33, 34], [], 2⟩, ⟨11, 2047, [9], [], 0⟩, ⟨12, 4095, [9], [], 2⟩, ⟨13, 8191, [9, 43], [], 2⟩, ⟨14, 8191, [9, 42], [], 2⟩, ⟨15, 0, [29, 30, 31, 32, 33, 34, 35, 36, 37, 38, 39, 40, 41, 42, 43], [], 1⟩, ⟨16, 49151, [43], [], 2⟩, ⟨17, 131071, [], [], 2⟩]

def impl_MergeRoutes_C (N : Nat) : CC := ⟨Γ_impl_SplitRoute, Λ0, (Δc 6 impl_MergeRoutes_dr6 Δ0), Μ0⟩

theorem impl_MergeRoutes_C_Γ (N : Nat) : ∀ f s, (impl_MergeRoutes_C N).Γ f = some s → SmrOK Try.prog f s := Γ_impl_SplitRoute_ok

theorem impl_MergeRoutes_C_Λ (N : Nat) : ∀ c, Try.f87.body = some c → ∀ b ∈ loopsIn c, ∀ s, (impl_MergeRoutes_C N).Λ (lid b) = some s → LOK Try.prog Try.f87.ntmps 0 b s :=
  LOKs_ofF (bs := []) (by kernel_rfl) LOKs_n

theorem impl_MergeRoutes_run {R : Type} (N : Nat) (xs : List (List PV)) (x : Int) (y : Int) (k : AV → List AB → Option R) :
    cfunN tt (impl_MergeRoutes_C N) Try.f87 0 [.d (.ls xs), .d (.int .i64 x), .d (.int .i64 y)] [] k = impl_MergeRoutes_c N xs x y k := by kernel_rfl

theorem impl_MergeRoutes_ceq {R : Type} (N : Nat) (x : Int) (y : Int) (rs : List Route) (k : AV → List AB → Option R) (hp1 : (decide (rs.length ≤ 1048576)) = true) :
    impl_MergeRoutes_c N (rs.map Route.pv) x y k = br (routesOk rs) (k (.tup [.sl 0, .d (.bool ((mergeR rs x y).2))]) [.ar 3 0 ((mergeR rs x y).1.map Route.pv)]) (k (.tup [.nil, .d (.bool false)]) []) := by
  have hp1' := hp1
  simp only [decide_eq_true_eq] at hp1'
  simp only [impl_MergeRoutes_c, Route.pv, Iv.pv, dInt_c, dStr_c, List.length_cons, List.length_nil, Nat.zero_add, Nat.reduceAdd, chk_beq, chk_t, br_t, br_f, bi_s, unRoutes_map, unIvs_map, hp1]
  unfold mergeR
  cases hr : routesOk rs
  · rfl
  · have hl := routes_len hr
    simp only [Bool.not_true, br_f, br_t, if_true]
    cases hx : rIndex rs x with
    | none => rfl
    | some i =>
      have hi := rIndex_lt hx
      simp only [List.length_map]
      rw [idx_s, decide_eq_false (show ¬ (i : Int) < 0 by omega), br_f, wrap_id (n := (rs.length : Int) - 1) (by omega) (by omega)]
      by_cases hj : i + 1 < rs.length
      · rw [show ((i : Int) == (rs.length : Int) - 1) = false by simp; omega, br_f, getC_map hi, wrap_s (by omega)]
        simp only [Route.pv, Iv.pv, dInt_c, dStr_c, List.length_cons, List.length_nil, Nat.zero_add, Nat.reduceAdd, chk_beq, chk_t, br_t, br_f, bi_s, unRoutes_map, unIvs_map]
        rw [getC_map hj]
        have hjo := routes_join hr hj
        rw [rAt_get hi, rAt_get hj] at hjo
        simp only [Route.pv, Iv.pv, dInt_c, dStr_c, List.length_cons, List.length_nil, Nat.zero_add, Nat.reduceAdd, chk_beq, chk_t, br_t, br_f, bi_s, unRoutes_map, unIvs_map, lit1, litc]
        rw [show joinOk ⟨rs[i].low, rs[i].high⟩ ⟨rs[i + 1].low, rs[i + 1].high⟩ = true from hjo, br_t, decide_eq_true (show (0 : Int) ≤ i by omega), decide_eq_true (show (0 : Int) ≤ 2 by omega), decide_eq_true (show (i : Int) + 2 ≤ rs.length by omega), show ((i : Int) + 2).toNat = i + 2 by omega, lenInt]
        simp only [Route.pv, Iv.pv, dInt_c, dStr_c, List.length_cons, List.length_nil, Nat.zero_add, Nat.reduceAdd, chk_beq, chk_t, br_t, br_f, bi_s, unRoutes_map, unIvs_map, Bool.and_self, decide_true, Nat.reduceLeDiff]
        have e : rs.take i ++ [⟨y, rs[i].low, rs[i + 1].high⟩] ++ rs.drop (i + 2) = mergeC rs i y := by unfold mergeC; rw [rAt_get hi, rAt_get hj]
        have e3 : decide ((mergeC rs i y).length ≤ 1048576) = true := by rw [← e]; simp only [List.length_append, List.length_map, List.length_take, List.length_drop, List.length_cons, List.length_nil, decide_eq_true_eq]; omega
        rw [e, e3, chk_t, decide_eq_true hj]
        cases routesOk (mergeC rs i y) <;> rfl
      · rw [show ((i : Int) == (rs.length : Int) - 1) = true by simp; omega, br_t, decide_eq_false hj]
        rfl
theorem impl_MergeRoutes_weq (x : Int) (y : Int) (rs : List Route) (hp1 : (decide (rs.length ≤ 1048576)) = true) :
    br (routesOk rs) ((fun a m => some (wdA 3 a m)) (.tup [.sl 0, .d (.bool ((mergeR rs x y).2))]) [.ar 3 0 ((mergeR rs x y).1.map Route.pv)]) ((fun a m => some (wdA 3 a m)) (.tup [.nil, .d (.bool false)]) []) = some (.tup [.sl 0, .d (.bool ((mergeR rs x y).2))], [.ar 3 0 ((mergeR rs x y).1.map Route.pv)]) := by
  unfold mergeR
  cases routesOk rs <;> rfl
def impl_MergeRoutes_sm : Smr := ⟨[false, false, false], fun R args mem k => match nilAVs args, mem with
  | [.d (.ls xs), .d (.int .i64 x), .d (.int .i64 y)], [] => bi (unRoutes xs) fun rs => chk (decide (rs.length ≤ 1048576)) (k (.tup [.sl 0, .d (.bool ((mergeR rs x y).2))]) [.ar 3 0 ((mergeR rs x y).1.map Route.pv)])
  | _, _ => none⟩

theorem impl_MergeRoutes_ok : SmrOK Try.prog 87 impl_MergeRoutes_sm := by
  intro R args mem k r h
  simp only [impl_MergeRoutes_sm] at h
  generalize hA : nilAVs args = args' at h
  split at h
  · rename_i xs x y
    obtain ⟨rs, hd0, h1⟩ := bi_eq h
    have hd0 := unRoutes_eq hd0
    subst hd0
    obtain ⟨hp1, h2⟩ := chk_eq h1
    replace h := h2
    refine ⟨_, _, Spec.nl hA ?_, h⟩
    have hw := impl_MergeRoutes_weq x y rs hp1
    cases hb0 : (routesOk rs) with
    | true =>
      simp only [br, hb0] at hw
      have hs : Spec Try.prog 87 _ [] (.tup [.sl 0, .d (.bool ((mergeR rs x y).2))]) [.ar 3 0 ((mergeR rs x y).1.map Route.pv)] := spec_of_run tt_ok mixed (impl_MergeRoutes_C_Γ 0) Try.func87 (by kernel_rfl) (mem := []) (Nat.le_of_ble_eq_true (by kernel_rfl)) (impl_MergeRoutes_C_Λ 0) ((impl_MergeRoutes_run 0 (rs.map Route.pv) x y _).trans ((impl_MergeRoutes_ceq 0 x y rs _ hp1).trans (by simp only [br, hb0])))
      have hs := hs.wd 3 (Nat.le_of_ble_eq_true (by kernel_rfl))
      rw [Option.some.inj hw] at hs
      exact hs
    | false =>
      simp only [br, hb0] at hw
      have hs : Spec Try.prog 87 _ [] (.tup [.nil, .d (.bool false)]) [] := spec_of_run tt_ok mixed (impl_MergeRoutes_C_Γ 0) Try.func87 (by kernel_rfl) (mem := []) (Nat.le_of_ble_eq_true (by kernel_rfl)) (impl_MergeRoutes_C_Λ 0) ((impl_MergeRoutes_run 0 (rs.map Route.pv) x y _).trans ((impl_MergeRoutes_ceq 0 x y rs _ hp1).trans (by simp only [br, hb0])))
      have hs := hs.wd 3 (Nat.le_of_ble_eq_true (by kernel_rfl))
      rw [Option.some.inj hw] at hs
      exact hs
  · cases h

def Γ_impl_MergeRoutes : FuncId → Option Smr := Γc 87 impl_MergeRoutes_sm Γ_impl_SplitRoute
theorem Γ_impl_MergeRoutes_ok : ∀ f s, Γ_impl_MergeRoutes f = some s → SmrOK Try.prog f s := Γc_ok impl_MergeRoutes_ok Γ_impl_SplitRoute_ok

end Go.Proofs.Ytfeiaibdnnhlaaa
