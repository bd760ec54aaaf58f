import Derived.Test.Ytfeiaibdnnhlaaag4
/- Decisions. -/
set_option linter.unusedVariables false
set_option linter.unusedSimpArgs false
namespace Go.Proofs.Ytfeiaibdnnhlaaa

def beginOk (w : Plan) (sh tn : Int) (p : Plan) : Bool := planOk p && decide (p.step = 0) && decide (p.first < sh) && decide (p.second < sh) && decide (w = noPlan) && decide (tn < 999)
def mergesOk (rs : List Route) (p : Plan) : Bool := decide (p.kind = 2) && match rIndex rs p.first with
  | none => false
  | some i => decide (rIndex rs p.second = some (i + 1))
def zMaster : Master := ⟨[], 0, noPlan, 0⟩

/-- What a decision makes of a valid master, before it is looked whether that is valid. -/
def cand (m : Master) (d : Decision) : Option Master :=
  if d.kind = 1 then (if beginOk m.work m.shards m.turn d.begun then some ⟨m.routes, m.shards, d.begun, m.turn + 1⟩ else none)
  else if d.begun ≠ noPlan then none
  else if d.kind = 2 then (if m.work.kind = 1 ∧ (splitR m.routes m.work.first m.work.key m.shards (m.shards + 1)).2 = true then some ⟨(splitR m.routes m.work.first m.work.key m.shards (m.shards + 1)).1, m.shards + 2, noPlan, m.turn⟩ else none)
  else if d.kind = 3 then (if mergesOk m.routes m.work = true ∧ (mergeR m.routes m.work.first m.shards).2 = true then some ⟨(mergeR m.routes m.work.first m.shards).1, m.shards + 1, noPlan, m.turn⟩ else none)
  else if d.kind = 4 then (if m.work.kind = 3 ∧ m.work.step = 0 then some ⟨m.routes, m.shards, { m.work with step := 1 }, m.turn⟩ else none)
  else if d.kind = 5 then (if m.work.kind = 3 then some ⟨m.routes, m.shards, noPlan, m.turn⟩ else none)
  else none
def applyDec (m : Master) (d : Decision) : Master × Bool :=
  if masterOk m then match cand m d with
    | none => (m, false)
    | some c => if masterOk c then (c, true) else (m, false)
  else (zMaster, false)

theorem splitR_len {rs : List Route} (h : rs.length ≤ 6) (x : Int) (key : ByteArray) (y z : Int) : (splitR rs x key y z).1.length ≤ 9 := by
  unfold splitR
  split
  · split
    · simp; omega
    · split
      · simp only [splitC, List.length_append, List.length_map, List.length_take, List.length_drop, List.length_cons, List.length_nil]; omega
      · simp; omega
  · simp
theorem mergeR_len {rs : List Route} (h : rs.length ≤ 6) (x y : Int) : (mergeR rs x y).1.length ≤ 9 := by
  unfold mergeR
  split
  · split
    · simp; omega
    · split
      · simp only [mergeC, List.length_append, List.length_map, List.length_take, List.length_drop, List.length_cons, List.length_nil]; omega
      · simp; omega
  · simp

structure MOK (rs : List Route) (sh : Int) (w : Plan) (tn : Int) : Prop where
  ok : routesOk rs = true
  len : rs.length ≤ 6
  s1 : 1 ≤ sh
  s8 : sh ≤ 8
  t0 : 0 ≤ tn
  t9 : tn ≤ 999
  wk : workOk w sh = true
theorem mok {rs : List Route} {sh : Int} {w : Plan} {tn : Int} (h : masterOk ⟨rs, sh, w, tn⟩ = true) : MOK rs sh w tn := by
  simp only [masterOk, Bool.and_eq_true, decide_eq_true_eq] at h
  exact ⟨h.1.1.1.1.1.1, (routes_len h.1.1.1.1.1.1).2, h.1.1.1.1.1.2, h.1.1.1.1.2, h.1.1.1.2, h.1.1.2, h.2⟩
theorem work_kind {w : Plan} {sh : Int} (h : workOk w sh = true) : (w.kind == 0) = decide (w = noPlan) := by
  by_cases e : w = noPlan
  · subst e; rfl
  · rw [decide_eq_false e]
    simp only [workOk, decide_eq_false e, Bool.false_or, Bool.and_eq_true, planOk, Bool.or_eq_true, decide_eq_true_eq] at h
    have : ¬ w.kind = 0 := by omega
    simpa using this

theorem ge_not (a b : Int) : decide (a ≥ b) = !decide (a < b) := by by_cases h : a < b <;> simp [h] <;> omega
theorem bne_not (a b : Int) : (a != b) = !decide (a = b) := by by_cases h : a = b <;> simp [h]
theorem beq_dec (a b : Int) : (a == b) = decide (a = b) := by by_cases h : a = b <;> simp [h]

/- impl.beginsWork -/

def impl_beginsWork_c {R : Type} (N : Nat) (qk : Int) (qf : Int) (qs : Int) (qb : ByteArray) (qr : Int) (qt : Int) (qe : Int) (sh : Int) (pk : Int) (pf : Int) (ps : Int) (pb : ByteArray) (pr : Int) (pt : Int) (pe : Int) (tn : Int) (xs : List (List PV)) (k : AV → List AB → Option R) : Option R :=
  br (!(planOk ⟨qk, qf, qs, qb, qr, qt, qe⟩))
  (k (.d (.bool false)) [.sv [.sl 1, .d (.int .i64 sh), .d (.int .i64 pk), .d (.int .i64 pf), .d (.int .i64 ps), .d (.str pb), .d (.int .i64 pr), .d (.int .i64 pt), .d (.int .i64 pe), .d (.int .i64 tn)], .ar 3 0 xs])
  (br (qe != 0)
   (k (.d (.bool false)) [.sv [.sl 1, .d (.int .i64 sh), .d (.int .i64 pk), .d (.int .i64 pf), .d (.int .i64 ps), .d (.str pb), .d (.int .i64 pr), .d (.int .i64 pt), .d (.int .i64 pe), .d (.int .i64 tn)], .ar 3 0 xs])
   (br (decide (qf ≥ sh))
    (k (.d (.bool false)) [.sv [.sl 1, .d (.int .i64 sh), .d (.int .i64 pk), .d (.int .i64 pf), .d (.int .i64 ps), .d (.str pb), .d (.int .i64 pr), .d (.int .i64 pt), .d (.int .i64 pe), .d (.int .i64 tn)], .ar 3 0 xs])
    (br (decide (qs ≥ sh))
     (k (.d (.bool false)) [.sv [.sl 1, .d (.int .i64 sh), .d (.int .i64 pk), .d (.int .i64 pf), .d (.int .i64 ps), .d (.str pb), .d (.int .i64 pr), .d (.int .i64 pt), .d (.int .i64 pe), .d (.int .i64 tn)], .ar 3 0 xs])
     (br (!((pk == 0) && ((pf == 0) && ((ps == 0) && (decide (pb = ⟨#[]⟩) && ((pr == 0) && ((pt == 0) && ((pe == 0) && true))))))))
      (k (.d (.bool false)) [.sv [.sl 1, .d (.int .i64 sh), .d (.int .i64 pk), .d (.int .i64 pf), .d (.int .i64 ps), .d (.str pb), .d (.int .i64 pr), .d (.int .i64 pt), .d (.int .i64 pe), .d (.int .i64 tn)], .ar 3 0 xs])
      (br (decide (tn ≥ 999))
       (k (.d (.bool false)) [.sv [.sl 1, .d (.int .i64 sh), .d (.int .i64 pk), .d (.int .i64 pf), .d (.int .i64 ps), .d (.str pb), .d (.int .i64 pr), .d (.int .i64 pt), .d (.int .i64 pe), .d (.int .i64 tn)], .ar 3 0 xs])
       (k (.d (.bool true)) [.sv [.sl 1, .d (.int .i64 sh), .d (.int .i64 qk), .d (.int .i64 qf), .d (.int .i64 qs), .d (.str qb), .d (.int .i64 qr), .d (.int .i64 qt), .d (.int .i64 qe), .d (.int .i64 (IntKind.i64.wrap (tn + 1)))], .ar 3 0 xs]))))))

def impl_beginsWork_dr1 : List DI := [⟨0, 0, [], [], 1⟩, ⟨1, 1, [], [], 0⟩, ⟨2, 3, [], [], 1⟩, ⟨3, 7, [], [], 1⟩, ⟨4, 15, [], [], 1⟩, ⟨5, 31, [], [], 1⟩, ⟨6, 63, [], [], 1⟩, ⟨7, 127, [], [], 1⟩, ⟨8, 255, [], [], 1⟩, ⟨9, 511, [16, 17, 18, 19], [], 1⟩, ⟨10, 1023, [16, 17, 18, 19], [], 1⟩, ⟨11, 511, [14, 15], [], 1⟩, ⟨12, 2559, [14, 15], [], 1⟩, ⟨13, 6655, [14, 15], [], 1⟩, ⟨14, 14847, [14, 15], [], 1⟩, ⟨15, 32767, [], [], 1⟩, ⟨16, 65535, [], [], 1⟩, ⟨17, 131071, [], [], 1⟩, ⟨18, 262143, [25, 26, 27, 28], [], 1⟩, ⟨19, 524287, [25, 26, 27, 28], [], 1⟩, ⟨20, 262143, [23, 24], [], 1⟩, ⟨21, 1310719, [23, 24], [], 1⟩, ⟨22, 3407871, [23, 24], [], 1⟩, ⟨23, 7602175, [23, 24], [], 1⟩, ⟨24, 16777215, [], [], 1⟩, ⟨25, 33554431, [], [], 1⟩, ⟨26, 67108863, [], [], 1⟩, ⟨27, 134217727, [36], [], 1⟩, ⟨28, 268435455, [36], [], 1⟩, ⟨29, 536870911, [36], [], 1⟩, ⟨30, 1073741823, [36], [], 1⟩, ⟨31, 134217727, [32, 33, 34, 35], [], 1⟩, ⟨32, 4294967295, [], [], 1⟩, ⟨33, 8589934591, [], [], 1⟩, ⟨34, 17179869183, [], [], 1⟩, ⟨35, 34359738367, [], [], 1⟩, ⟨36, 68719476735, [], [], 1⟩, ⟨37, 137438953471, [], [], 1⟩, ⟨38, 274877906943, [], [], 1⟩, ⟨39, 549755813887, [], [], 1⟩, ⟨40, 1099511627775, [], [], 1⟩]

def impl_beginsWork_C (N : Nat) : CC := ⟨Γ_impl_MergeRoutes, Λ0, (Δc 1 impl_beginsWork_dr1 Δ0), Μ0⟩

theorem impl_beginsWork_C_Γ (N : Nat) : ∀ f s, (impl_beginsWork_C N).Γ f = some s → SmrOK Try.prog f s := Γ_impl_MergeRoutes_ok

theorem impl_beginsWork_C_Λ (N : Nat) : ∀ c, Try.f43.body = some c → ∀ b ∈ loopsIn c, ∀ s, (impl_beginsWork_C N).Λ (lid b) = some s → LOK Try.prog Try.f43.ntmps 2 b s :=
  LOKs_ofF (bs := []) (by kernel_rfl) LOKs_n

theorem impl_beginsWork_run {R : Type} (N : Nat) (qk : Int) (qf : Int) (qs : Int) (qb : ByteArray) (qr : Int) (qt : Int) (qe : Int) (sh : Int) (pk : Int) (pf : Int) (ps : Int) (pb : ByteArray) (pr : Int) (pt : Int) (pe : Int) (tn : Int) (xs : List (List PV)) (k : AV → List AB → Option R) :
    cfunN tt (impl_beginsWork_C N) Try.f43 2 [.ref 0 0, .agg [.d (.int .i64 qk), .d (.int .i64 qf), .d (.int .i64 qs), .d (.str qb), .d (.int .i64 qr), .d (.int .i64 qt), .d (.int .i64 qe)]] [.sv [.sl 1, .d (.int .i64 sh), .d (.int .i64 pk), .d (.int .i64 pf), .d (.int .i64 ps), .d (.str pb), .d (.int .i64 pr), .d (.int .i64 pt), .d (.int .i64 pe), .d (.int .i64 tn)], .ar 3 0 xs] k = impl_beginsWork_c N qk qf qs qb qr qt qe sh pk pf ps pb pr pt pe tn xs k := by kernel_rfl

theorem impl_beginsWork_ceq {R : Type} (N : Nat) (qk : Int) (qf : Int) (qs : Int) (qb : ByteArray) (qr : Int) (qt : Int) (qe : Int) (sh : Int) (pk : Int) (pf : Int) (ps : Int) (pb : ByteArray) (pr : Int) (pt : Int) (pe : Int) (tn : Int) (rs : List Route) (k : AV → List AB → Option R) (hp1 : (decide (0 ≤ tn)) = true) :
    impl_beginsWork_c N qk qf qs qb qr qt qe sh pk pf ps pb pr pt pe tn (rs.map Route.pv) k = br (beginOk ⟨pk, pf, ps, pb, pr, pt, pe⟩ sh tn ⟨qk, qf, qs, qb, qr, qt, qe⟩) (k (.d (.bool true)) [.sv [.sl 1, .d (.int .i64 sh), .d (.int .i64 qk), .d (.int .i64 qf), .d (.int .i64 qs), .d (.str qb), .d (.int .i64 qr), .d (.int .i64 qt), .d (.int .i64 qe), .d (.int .i64 (tn + 1))], .ar 3 0 (rs.map Route.pv)]) (k (.d (.bool false)) [.sv [.sl 1, .d (.int .i64 sh), .d (.int .i64 pk), .d (.int .i64 pf), .d (.int .i64 ps), .d (.str pb), .d (.int .i64 pr), .d (.int .i64 pt), .d (.int .i64 pe), .d (.int .i64 tn)], .ar 3 0 (rs.map Route.pv)]) := by
  simp only [impl_beginsWork_c, noPlan_eq, ge_not, br_not, bne_not]
  unfold beginOk
  by_cases h1 : tn < 999
  · simp only [h1, decide_true]
    have h0 := of_decide_eq_true hp1
    rw [wrap_id (by omega) (by omega)]
    cases planOk ⟨qk, qf, qs, qb, qr, qt, qe⟩ <;> cases decide (qe = 0) <;> cases decide (qf < sh) <;> cases decide (qs < sh) <;> cases decide (Plan.mk pk pf ps pb pr pt pe = noPlan) <;> rfl
  · simp only [h1, decide_false]
    cases planOk ⟨qk, qf, qs, qb, qr, qt, qe⟩ <;> cases decide (qe = 0) <;> cases decide (qf < sh) <;> cases decide (qs < sh) <;> cases decide (Plan.mk pk pf ps pb pr pt pe = noPlan) <;> rfl
def impl_beginsWork_sm : Smr := ⟨[true, false], fun R args mem k => match nilAVs args, mem with
  | [.ref z1 z2, .agg [.d (.int .i64 qk), .d (.int .i64 qf), .d (.int .i64 qs), .d (.str qb), .d (.int .i64 qr), .d (.int .i64 qt), .d (.int .i64 qe)]], [.sv [.sl z3, .d (.int .i64 sh), .d (.int .i64 pk), .d (.int .i64 pf), .d (.int .i64 ps), .d (.str pb), .d (.int .i64 pr), .d (.int .i64 pt), .d (.int .i64 pe), .d (.int .i64 tn)], .ar z4 z5 xs] => chk (Nat.beq z1 0 && Nat.beq z2 0 && Nat.beq z3 1 && Nat.beq z4 3 && Nat.beq z5 0) (bi (unRoutes xs) fun rs => chk (decide (0 ≤ tn)) (br (beginOk ⟨pk, pf, ps, pb, pr, pt, pe⟩ sh tn ⟨qk, qf, qs, qb, qr, qt, qe⟩) (k (.d (.bool true)) [.sv [.sl 1, .d (.int .i64 sh), .d (.int .i64 qk), .d (.int .i64 qf), .d (.int .i64 qs), .d (.str qb), .d (.int .i64 qr), .d (.int .i64 qt), .d (.int .i64 qe), .d (.int .i64 (tn + 1))], .ar 3 0 (rs.map Route.pv)]) (k (.d (.bool false)) [.sv [.sl 1, .d (.int .i64 sh), .d (.int .i64 pk), .d (.int .i64 pf), .d (.int .i64 ps), .d (.str pb), .d (.int .i64 pr), .d (.int .i64 pt), .d (.int .i64 pe), .d (.int .i64 tn)], .ar 3 0 (rs.map Route.pv)])))
  | _, _ => none⟩

theorem impl_beginsWork_ok : SmrOK Try.prog 43 impl_beginsWork_sm := by
  intro R args mem k r h
  simp only [impl_beginsWork_sm] at h
  generalize hA : nilAVs args = args' at h
  split at h
  · rename_i z1 z2 qk qf qs qb qr qt qe z3 sh pk pf ps pb pr pt pe tn z4 z5 xs
    obtain ⟨hc, h1⟩ := chk_eq h
    simp only [Bool.and_eq_true, Nat.beq_eq_true_eq] at hc
    obtain ⟨⟨⟨⟨rfl, rfl⟩, rfl⟩, rfl⟩, rfl⟩ := hc
    obtain ⟨rs, hd0, h2⟩ := bi_eq h1
    have hd0 := unRoutes_eq hd0
    subst hd0
    obtain ⟨hp1, h3⟩ := chk_eq h2
    replace h := h3
    rcases br_eq h with ⟨hb0, h⟩ | ⟨hb0, h⟩
    · refine ⟨_, _, Spec.nl hA (spec_of_run tt_ok mixed (impl_beginsWork_C_Γ 0) Try.func43 (by kernel_rfl) (mem := [.sv [.sl 1, .d (.int .i64 sh), .d (.int .i64 pk), .d (.int .i64 pf), .d (.int .i64 ps), .d (.str pb), .d (.int .i64 pr), .d (.int .i64 pt), .d (.int .i64 pe), .d (.int .i64 tn)], .ar 3 0 (rs.map Route.pv)]) (Nat.le_of_ble_eq_true (by kernel_rfl)) (impl_beginsWork_C_Λ 0) ((impl_beginsWork_run 0 qk qf qs qb qr qt qe sh pk pf ps pb pr pt pe tn (rs.map Route.pv) _).trans ((impl_beginsWork_ceq 0 qk qf qs qb qr qt qe sh pk pf ps pb pr pt pe tn rs _ hp1).trans ?_))), h⟩
      simp only [br, hb0]
    · refine ⟨_, _, Spec.nl hA (spec_of_run tt_ok mixed (impl_beginsWork_C_Γ 0) Try.func43 (by kernel_rfl) (mem := [.sv [.sl 1, .d (.int .i64 sh), .d (.int .i64 pk), .d (.int .i64 pf), .d (.int .i64 ps), .d (.str pb), .d (.int .i64 pr), .d (.int .i64 pt), .d (.int .i64 pe), .d (.int .i64 tn)], .ar 3 0 (rs.map Route.pv)]) (Nat.le_of_ble_eq_true (by kernel_rfl)) (impl_beginsWork_C_Λ 0) ((impl_beginsWork_run 0 qk qf qs qb qr qt qe sh pk pf ps pb pr pt pe tn (rs.map Route.pv) _).trans ((impl_beginsWork_ceq 0 qk qf qs qb qr qt qe sh pk pf ps pb pr pt pe tn rs _ hp1).trans ?_))), h⟩
      simp only [br, hb0]
  · cases h

def Γ_impl_beginsWork : FuncId → Option Smr := Γc 43 impl_beginsWork_sm Γ_impl_MergeRoutes
theorem Γ_impl_beginsWork_ok : ∀ f s, Γ_impl_beginsWork f = some s → SmrOK Try.prog f s := Γc_ok impl_beginsWork_ok Γ_impl_MergeRoutes_ok


/- impl.splitsRoutes -/

def impl_splitsRoutes_c {R : Type} (N : Nat) (sh : Int) (pk : Int) (pf : Int) (ps : Int) (pb : ByteArray) (pr : Int) (pt : Int) (pe : Int) (tn : Int) (xs : List (List PV)) (k : AV → List AB → Option R) : Option R :=
  br (pk != 1)
  (k (.d (.bool false)) [.sv [.sl 1, .d (.int .i64 sh), .d (.int .i64 pk), .d (.int .i64 pf), .d (.int .i64 ps), .d (.str pb), .d (.int .i64 pr), .d (.int .i64 pt), .d (.int .i64 pe), .d (.int .i64 tn)], .ar 3 0 xs])
  (bi (unRoutes xs) fun rs1 =>
   chk (decide (rs1.length ≤ 1048576))
   (k (.d (.bool ((splitR rs1 pf pb sh (IntKind.i64.wrap (sh + 1))).2))) [.sv [.sl 2, .d (.int .i64 (IntKind.i64.wrap (sh + 2))), .d (.int .i64 0), .d (.int .i64 0), .d (.int .i64 0), .d (.str ⟨#[]⟩), .d (.int .i64 0), .d (.int .i64 0), .d (.int .i64 0), .d (.int .i64 tn)], .ar 3 0 xs, .ar 3 0 ((splitR rs1 pf pb sh (IntKind.i64.wrap (sh + 1))).1.map Route.pv)]))

def impl_splitsRoutes_dr5 : List DI := [⟨0, 0, [12, 14, 15, 16, 17, 18, 19, 20, 21, 22, 23, 24, 25, 26, 27, 28, 29, 30, 31, 32, 33], [], 1⟩, ⟨1, 0, [13, 18, 19, 20, 21, 22, 23, 24, 25, 26, 27, 28, 29, 30], [], 1⟩, ⟨2, 2, [13, 18, 19, 20, 21, 22, 23, 24, 25, 26, 27, 28, 29, 30], [], 1⟩, ⟨3, 6, [13, 18, 19, 20, 21, 22, 23, 24, 25, 26, 27, 28, 29, 30], [], 1⟩, ⟨4, 14, [13, 18, 19, 20, 21, 22, 23, 24, 25, 26, 27, 28, 29, 30], [], 1⟩, ⟨5, 0, [13, 14, 15, 16, 17, 20, 21, 22, 23, 24, 25, 26, 27, 28, 29, 30], [], 1⟩, ⟨6, 32, [13, 14, 15, 16, 17, 20, 21, 22, 23, 24, 25, 26, 27, 28, 29, 30], [], 1⟩, ⟨7, 0, [13, 14, 15, 16, 17, 18, 19, 22, 23, 24, 25, 26, 27, 28, 29, 30], [], 1⟩, ⟨8, 128, [13, 14, 15, 16, 17, 18, 19, 22, 23, 24, 25, 26, 27, 28, 29, 30], [], 1⟩, ⟨9, 0, [13, 14, 15, 16, 17, 18, 19, 20, 21, 26, 27, 28, 29, 30], [], 1⟩, ⟨10, 512, [13, 14, 15, 16, 17, 18, 19, 20, 21, 26, 27, 28, 29, 30], [], 1⟩, ⟨11, 1536, [13, 14, 15, 16, 17, 18, 19, 20, 21, 26, 27, 28, 29, 30], [], 1⟩, ⟨12, 3584, [13, 14, 15, 16, 17, 18, 19, 20, 21, 26, 27, 28, 29, 30], [], 1⟩, ⟨13, 0, [13, 14, 15, 16, 17, 18, 19, 20, 21, 22, 23, 24, 25], [], 1⟩, ⟨14, 8192, [13, 14, 15, 16, 17, 18, 19, 20, 21, 22, 23, 24, 25], [], 1⟩, ⟨15, 24576, [13, 14, 15, 16, 17, 18, 19, 20, 21, 22, 23, 24, 25], [], 1⟩, ⟨16, 57344, [13, 14, 15, 16, 17, 18, 19, 20, 21, 22, 23, 24, 25], [], 1⟩, ⟨17, 122880, [13, 14, 15, 16, 17, 18, 19, 20, 21, 22, 23, 24, 25], [], 1⟩, ⟨18, 262142, [13], [], 0⟩, ⟨19, 524286, [13], [], 1⟩, ⟨20, 1048574, [13, 33], [], 1⟩, ⟨21, 1048574, [13, 32, 34, 35], [0], 1⟩, ⟨22, 2097151, [33], [], 1⟩, ⟨23, 6291455, [33], [], 1⟩, ⟨24, 14680063, [33], [], 1⟩, ⟨25, 33554431, [], [], 1⟩]

def impl_splitsRoutes_C (N : Nat) : CC := ⟨Γ_impl_beginsWork, Λ0, (Δc 5 impl_splitsRoutes_dr5 Δ0), Μ0⟩

theorem impl_splitsRoutes_C_Γ (N : Nat) : ∀ f s, (impl_splitsRoutes_C N).Γ f = some s → SmrOK Try.prog f s := Γ_impl_beginsWork_ok

theorem impl_splitsRoutes_C_Λ (N : Nat) : ∀ c, Try.f44.body = some c → ∀ b ∈ loopsIn c, ∀ s, (impl_splitsRoutes_C N).Λ (lid b) = some s → LOK Try.prog Try.f44.ntmps 2 b s :=
  LOKs_ofF (bs := []) (by kernel_rfl) LOKs_n

theorem impl_splitsRoutes_run {R : Type} (N : Nat) (sh : Int) (pk : Int) (pf : Int) (ps : Int) (pb : ByteArray) (pr : Int) (pt : Int) (pe : Int) (tn : Int) (xs : List (List PV)) (k : AV → List AB → Option R) :
    cfunN tt (impl_splitsRoutes_C N) Try.f44 2 [.ref 0 0] [.sv [.sl 1, .d (.int .i64 sh), .d (.int .i64 pk), .d (.int .i64 pf), .d (.int .i64 ps), .d (.str pb), .d (.int .i64 pr), .d (.int .i64 pt), .d (.int .i64 pe), .d (.int .i64 tn)], .ar 3 0 xs] k = impl_splitsRoutes_c N sh pk pf ps pb pr pt pe tn xs k := by kernel_rfl

theorem impl_splitsRoutes_ceq {R : Type} (N : Nat) (sh : Int) (pk : Int) (pf : Int) (ps : Int) (pb : ByteArray) (pr : Int) (pt : Int) (pe : Int) (tn : Int) (rs : List Route) (k : AV → List AB → Option R) (hp1 : (decide (rs.length ≤ 1048576)) = true) (hp2 : (routesOk rs) = true) (hp3 : (decide (0 ≤ sh) && decide (sh ≤ 8)) = true) :
    impl_splitsRoutes_c N sh pk pf ps pb pr pt pe tn (rs.map Route.pv) k = br (!decide (pk = 1)) (k (.d (.bool false)) [.sv [.sl 1, .d (.int .i64 sh), .d (.int .i64 pk), .d (.int .i64 pf), .d (.int .i64 ps), .d (.str pb), .d (.int .i64 pr), .d (.int .i64 pt), .d (.int .i64 pe), .d (.int .i64 tn)], .ar 3 0 (rs.map Route.pv)]) (k (.d (.bool ((splitR rs pf pb sh (sh + 1)).2))) [.sv [.sl 2, .d (.int .i64 (sh + 2)), .d (.int .i64 0), .d (.int .i64 0), .d (.int .i64 0), .d (.str ⟨#[]⟩), .d (.int .i64 0), .d (.int .i64 0), .d (.int .i64 0), .d (.int .i64 tn)], .ar 3 0 (rs.map Route.pv), .ar 3 0 ((splitR rs pf pb sh (sh + 1)).1.map Route.pv)]) := by
  have hp3' := hp3
  simp only [decide_eq_true_eq, Bool.and_eq_true] at hp3'
  simp only [impl_splitsRoutes_c, Route.pv, Iv.pv, dInt_c, dStr_c, List.length_cons, List.length_nil, Nat.zero_add, Nat.reduceAdd, chk_beq, chk_t, br_t, br_f, bi_s, unRoutes_map, unIvs_map, hp1, wrap_id (n := sh + 1) (by omega) (by omega), wrap_id (n := sh + 2) (by omega) (by omega), bne_not]
def impl_splitsRoutes_sm : Smr := ⟨[true], fun R args mem k => match nilAVs args, mem with
  | [.ref z1 z2], [.sv [.sl z3, .d (.int .i64 sh), .d (.int .i64 pk), .d (.int .i64 pf), .d (.int .i64 ps), .d (.str pb), .d (.int .i64 pr), .d (.int .i64 pt), .d (.int .i64 pe), .d (.int .i64 tn)], .ar z4 z5 xs] => chk (Nat.beq z1 0 && Nat.beq z2 0 && Nat.beq z3 1 && Nat.beq z4 3 && Nat.beq z5 0) (bi (unRoutes xs) fun rs => chk (decide (rs.length ≤ 1048576)) (chk (routesOk rs) (chk (decide (0 ≤ sh) && decide (sh ≤ 8)) (br (!decide (pk = 1)) (k (.d (.bool false)) [.sv [.sl 1, .d (.int .i64 sh), .d (.int .i64 pk), .d (.int .i64 pf), .d (.int .i64 ps), .d (.str pb), .d (.int .i64 pr), .d (.int .i64 pt), .d (.int .i64 pe), .d (.int .i64 tn)], .ar 3 0 (rs.map Route.pv)]) (k (.d (.bool ((splitR rs pf pb sh (sh + 1)).2))) [.sv [.sl 2, .d (.int .i64 (sh + 2)), .d (.int .i64 0), .d (.int .i64 0), .d (.int .i64 0), .d (.str ⟨#[]⟩), .d (.int .i64 0), .d (.int .i64 0), .d (.int .i64 0), .d (.int .i64 tn)], .ar 3 0 (rs.map Route.pv), .ar 3 0 ((splitR rs pf pb sh (sh + 1)).1.map Route.pv)])))))
  | _, _ => none⟩

theorem impl_splitsRoutes_ok : SmrOK Try.prog 44 impl_splitsRoutes_sm := by
  intro R args mem k r h
  simp only [impl_splitsRoutes_sm] at h
  generalize hA : nilAVs args = args' at h
  split at h
  · rename_i z1 z2 z3 sh pk pf ps pb pr pt pe tn z4 z5 xs
    obtain ⟨hc, h1⟩ := chk_eq h
    simp only [Bool.and_eq_true, Nat.beq_eq_true_eq] at hc
    obtain ⟨⟨⟨⟨rfl, rfl⟩, rfl⟩, rfl⟩, rfl⟩ := hc
    obtain ⟨rs, hd0, h2⟩ := bi_eq h1
    have hd0 := unRoutes_eq hd0
    subst hd0
    obtain ⟨hp1, h3⟩ := chk_eq h2
    obtain ⟨hp2, h4⟩ := chk_eq h3
    obtain ⟨hp3, h5⟩ := chk_eq h4
    replace h := h5
    rcases br_eq h with ⟨hb0, h⟩ | ⟨hb0, h⟩
    · refine ⟨_, _, Spec.nl hA (spec_of_run tt_ok mixed (impl_splitsRoutes_C_Γ 0) Try.func44 (by kernel_rfl) (mem := [.sv [.sl 1, .d (.int .i64 sh), .d (.int .i64 pk), .d (.int .i64 pf), .d (.int .i64 ps), .d (.str pb), .d (.int .i64 pr), .d (.int .i64 pt), .d (.int .i64 pe), .d (.int .i64 tn)], .ar 3 0 (rs.map Route.pv)]) (Nat.le_of_ble_eq_true (by kernel_rfl)) (impl_splitsRoutes_C_Λ 0) ((impl_splitsRoutes_run 0 sh pk pf ps pb pr pt pe tn (rs.map Route.pv) _).trans ((impl_splitsRoutes_ceq 0 sh pk pf ps pb pr pt pe tn rs _ hp1 hp2 hp3).trans ?_))), h⟩
      simp only [br, hb0]
    · refine ⟨_, _, Spec.nl hA (spec_of_run tt_ok mixed (impl_splitsRoutes_C_Γ 0) Try.func44 (by kernel_rfl) (mem := [.sv [.sl 1, .d (.int .i64 sh), .d (.int .i64 pk), .d (.int .i64 pf), .d (.int .i64 ps), .d (.str pb), .d (.int .i64 pr), .d (.int .i64 pt), .d (.int .i64 pe), .d (.int .i64 tn)], .ar 3 0 (rs.map Route.pv)]) (Nat.le_of_ble_eq_true (by kernel_rfl)) (impl_splitsRoutes_C_Λ 0) ((impl_splitsRoutes_run 0 sh pk pf ps pb pr pt pe tn (rs.map Route.pv) _).trans ((impl_splitsRoutes_ceq 0 sh pk pf ps pb pr pt pe tn rs _ hp1 hp2 hp3).trans ?_))), h⟩
      simp only [br, hb0]
  · cases h

def Γ_impl_splitsRoutes : FuncId → Option Smr := Γc 44 impl_splitsRoutes_sm Γ_impl_beginsWork
theorem Γ_impl_splitsRoutes_ok : ∀ f s, Γ_impl_splitsRoutes f = some s → SmrOK Try.prog f s := Γc_ok impl_splitsRoutes_ok Γ_impl_beginsWork_ok


theorem dec_and_f (b : Bool) : (false && b) = false := rfl
/- impl.mergesRoutes -/

def impl_mergesRoutes_c {R : Type} (N : Nat) (sh : Int) (pk : Int) (pf : Int) (ps : Int) (pb : ByteArray) (pr : Int) (pt : Int) (pe : Int) (tn : Int) (xs : List (List PV)) (k : AV → List AB → Option R) : Option R :=
  br (pk != 2)
  (k (.d (.bool false)) [.sv [.sl 1, .d (.int .i64 sh), .d (.int .i64 pk), .d (.int .i64 pf), .d (.int .i64 ps), .d (.str pb), .d (.int .i64 pr), .d (.int .i64 pt), .d (.int .i64 pe), .d (.int .i64 tn)], .ar 3 0 xs])
  (bi (unRoutes xs) fun rs1 =>
   chk (decide (rs1.length ≤ 1048576))
   (br (decide ((idx (rIndex rs1 pf)) < 0))
    (k (.d (.bool false)) [.sv [.sl 1, .d (.int .i64 sh), .d (.int .i64 pk), .d (.int .i64 pf), .d (.int .i64 ps), .d (.str pb), .d (.int .i64 pr), .d (.int .i64 pt), .d (.int .i64 pe), .d (.int .i64 tn)], .ar 3 0 xs])
    (bi (unRoutes xs) fun rs2 =>
     chk (decide (rs2.length ≤ 1048576))
     (br ((idx (rIndex rs2 ps)) != (IntKind.i64.wrap ((idx (rIndex rs1 pf)) + 1)))
      (k (.d (.bool false)) [.sv [.sl 1, .d (.int .i64 sh), .d (.int .i64 pk), .d (.int .i64 pf), .d (.int .i64 ps), .d (.str pb), .d (.int .i64 pr), .d (.int .i64 pt), .d (.int .i64 pe), .d (.int .i64 tn)], .ar 3 0 xs])
      (bi (unRoutes xs) fun rs3 =>
       chk (decide (rs3.length ≤ 1048576))
       (k (.d (.bool ((mergeR rs3 pf sh).2))) [.sv [.sl 2, .d (.int .i64 (IntKind.i64.wrap (sh + 1))), .d (.int .i64 0), .d (.int .i64 0), .d (.int .i64 0), .d (.str ⟨#[]⟩), .d (.int .i64 0), .d (.int .i64 0), .d (.int .i64 0), .d (.int .i64 tn)], .ar 3 0 xs, .ar 3 0 ((mergeR rs3 pf sh).1.map Route.pv)]))))))

def impl_mergesRoutes_dr4 : List DI := [⟨0, 0, [17, 18], [], 1⟩, ⟨1, 1, [17, 18], [], 1⟩, ⟨2, 3, [17, 18], [], 1⟩, ⟨3, 7, [17, 18], [], 1⟩, ⟨4, 0, [13, 14, 15, 16], [], 1⟩, ⟨5, 16, [13, 14, 15, 16], [], 1⟩, ⟨6, 63, [], [], 0⟩, ⟨7, 127, [], [], 1⟩]

def impl_mergesRoutes_dr5 : List DI := [⟨0, 0, [], [], 1⟩, ⟨1, 1, [], [], 1⟩, ⟨2, 3, [], [], 1⟩, ⟨3, 7, [27, 28, 30, 31], [], 1⟩, ⟨4, 15, [27, 28, 30, 31], [], 1⟩, ⟨5, 31, [27, 28, 30, 31], [], 1⟩, ⟨6, 63, [27, 28, 30, 31], [], 1⟩, ⟨7, 7, [23, 24, 25, 26, 30, 31], [], 1⟩, ⟨8, 135, [23, 24, 25, 26, 30, 31], [], 1⟩, ⟨9, 511, [30, 31], [], 0⟩, ⟨10, 7, [23, 24, 25, 26, 27, 28, 29], [], 1⟩, ⟨11, 1031, [23, 24, 25, 26, 27, 28, 29], [], 1⟩, ⟨12, 4095, [], [], 1⟩, ⟨13, 8191, [], [], 1⟩]

def impl_mergesRoutes_dr8 : List DI := [⟨0, 0, [34, 36, 37, 38, 39, 40, 41, 42, 43, 44, 45, 46, 47, 48], [], 1⟩, ⟨1, 0, [35, 40, 41, 42, 43, 44, 45], [], 1⟩, ⟨2, 2, [35, 40, 41, 42, 43, 44, 45], [], 1⟩, ⟨3, 6, [35, 40, 41, 42, 43, 44, 45], [], 1⟩, ⟨4, 14, [35, 40, 41, 42, 43, 44, 45], [], 1⟩, ⟨5, 0, [35, 36, 37, 38, 39, 42, 43, 44, 45], [], 1⟩, ⟨6, 32, [35, 36, 37, 38, 39, 42, 43, 44, 45], [], 1⟩, ⟨7, 0, [35, 36, 37, 38, 39, 40, 41], [], 1⟩, ⟨8, 128, [35, 36, 37, 38, 39, 40, 41], [], 1⟩, ⟨9, 384, [35, 36, 37, 38, 39, 40, 41], [], 1⟩, ⟨10, 896, [35, 36, 37, 38, 39, 40, 41], [], 1⟩, ⟨11, 2046, [35], [], 0⟩, ⟨12, 4094, [35], [], 1⟩, ⟨13, 8190, [35, 48], [], 1⟩, ⟨14, 8190, [35, 47, 49, 50], [0], 1⟩, ⟨15, 16383, [48], [], 1⟩, ⟨16, 49151, [48], [], 1⟩, ⟨17, 114687, [48], [], 1⟩, ⟨18, 262143, [], [], 1⟩]

def impl_mergesRoutes_C (N : Nat) : CC := ⟨Γ_impl_splitsRoutes, Λ0, (Δc 8 impl_mergesRoutes_dr8 (Δc 5 impl_mergesRoutes_dr5 (Δc 4 impl_mergesRoutes_dr4 Δ0))), Μ0⟩

theorem impl_mergesRoutes_C_Γ (N : Nat) : ∀ f s, (impl_mergesRoutes_C N).Γ f = some s → SmrOK Try.prog f s := Γ_impl_splitsRoutes_ok

theorem impl_mergesRoutes_C_Λ (N : Nat) : ∀ c, Try.f45.body = some c → ∀ b ∈ loopsIn c, ∀ s, (impl_mergesRoutes_C N).Λ (lid b) = some s → LOK Try.prog Try.f45.ntmps 2 b s :=
  LOKs_ofF (bs := []) (by kernel_rfl) LOKs_n

theorem impl_mergesRoutes_run {R : Type} (N : Nat) (sh : Int) (pk : Int) (pf : Int) (ps : Int) (pb : ByteArray) (pr : Int) (pt : Int) (pe : Int) (tn : Int) (xs : List (List PV)) (k : AV → List AB → Option R) :
    cfunN tt (impl_mergesRoutes_C N) Try.f45 2 [.ref 0 0] [.sv [.sl 1, .d (.int .i64 sh), .d (.int .i64 pk), .d (.int .i64 pf), .d (.int .i64 ps), .d (.str pb), .d (.int .i64 pr), .d (.int .i64 pt), .d (.int .i64 pe), .d (.int .i64 tn)], .ar 3 0 xs] k = impl_mergesRoutes_c N sh pk pf ps pb pr pt pe tn xs k := by kernel_rfl

theorem impl_mergesRoutes_ceq {R : Type} (N : Nat) (sh : Int) (pk : Int) (pf : Int) (ps : Int) (pb : ByteArray) (pr : Int) (pt : Int) (pe : Int) (tn : Int) (rs : List Route) (k : AV → List AB → Option R) (hp1 : (decide (rs.length ≤ 1048576)) = true) (hp2 : (routesOk rs) = true) (hp3 : (decide (0 ≤ sh) && decide (sh ≤ 8)) = true) :
    impl_mergesRoutes_c N sh pk pf ps pb pr pt pe tn (rs.map Route.pv) k = br (!mergesOk rs ⟨pk, pf, ps, pb, pr, pt, pe⟩) (k (.d (.bool false)) [.sv [.sl 1, .d (.int .i64 sh), .d (.int .i64 pk), .d (.int .i64 pf), .d (.int .i64 ps), .d (.str pb), .d (.int .i64 pr), .d (.int .i64 pt), .d (.int .i64 pe), .d (.int .i64 tn)], .ar 3 0 (rs.map Route.pv)]) (k (.d (.bool ((mergeR rs pf sh).2))) [.sv [.sl 2, .d (.int .i64 (sh + 1)), .d (.int .i64 0), .d (.int .i64 0), .d (.int .i64 0), .d (.str ⟨#[]⟩), .d (.int .i64 0), .d (.int .i64 0), .d (.int .i64 0), .d (.int .i64 tn)], .ar 3 0 (rs.map Route.pv), .ar 3 0 ((mergeR rs pf sh).1.map Route.pv)]) := by
  have hp3' := hp3
  simp only [decide_eq_true_eq, Bool.and_eq_true] at hp3'
  have hl := (routes_len hp2).2
  simp only [impl_mergesRoutes_c, Route.pv, Iv.pv, dInt_c, dStr_c, List.length_cons, List.length_nil, Nat.zero_add, Nat.reduceAdd, chk_beq, chk_t, br_t, br_f, bi_s, unRoutes_map, unIvs_map, hp1, wrap_id (n := sh + 1) (by omega) (by omega), bne_not, br_not]
  unfold mergesOk
  by_cases hk : pk = 2
  · simp only [hk, decide_true, br_t, Bool.true_and]
    cases hx : rIndex rs pf with
    | none => rw [idx_n, neg1]; rfl
    | some i =>
      have hi := rIndex_lt hx
      rw [idx_s, decide_eq_false (show ¬ (i : Int) < 0 by omega), br_f, wrap_s (by omega)]
      have e : decide (idx (rIndex rs ps) = ((i + 1 : Nat) : Int)) = decide (rIndex rs ps = some (i + 1)) := by
        apply decide_eq_decide.2
        cases rIndex rs ps with
        | none => simp [idx]; omega
        | some j => simp only [idx, Option.some.injEq]; omega
      rw [e]
  · simp only [hk, decide_false, br_f, Bool.false_and]
def impl_mergesRoutes_sm : Smr := ⟨[true], fun R args mem k => match nilAVs args, mem with
  | [.ref z1 z2], [.sv [.sl z3, .d (.int .i64 sh), .d (.int .i64 pk), .d (.int .i64 pf), .d (.int .i64 ps), .d (.str pb), .d (.int .i64 pr), .d (.int .i64 pt), .d (.int .i64 pe), .d (.int .i64 tn)], .ar z4 z5 xs] => chk (Nat.beq z1 0 && Nat.beq z2 0 && Nat.beq z3 1 && Nat.beq z4 3 && Nat.beq z5 0) (bi (unRoutes xs) fun rs => chk (decide (rs.length ≤ 1048576)) (chk (routesOk rs) (chk (decide (0 ≤ sh) && decide (sh ≤ 8)) (br (!mergesOk rs ⟨pk, pf, ps, pb, pr, pt, pe⟩) (k (.d (.bool false)) [.sv [.sl 1, .d (.int .i64 sh), .d (.int .i64 pk), .d (.int .i64 pf), .d (.int .i64 ps), .d (.str pb), .d (.int .i64 pr), .d (.int .i64 pt), .d (.int .i64 pe), .d (.int .i64 tn)], .ar 3 0 (rs.map Route.pv)]) (k (.d (.bool ((mergeR rs pf sh).2))) [.sv [.sl 2, .d (.int .i64 (sh + 1)), .d (.int .i64 0), .d (.int .i64 0), .d (.int .i64 0), .d (.str ⟨#[]⟩), .d (.int .i64 0), .d (.int .i64 0), .d (.int .i64 0), .d (.int .i64 tn)], .ar 3 0 (rs.map Route.pv), .ar 3 0 ((mergeR rs pf sh).1.map Route.pv)])))))
  | _, _ => none⟩

theorem impl_mergesRoutes_ok : SmrOK Try.prog 45 impl_mergesRoutes_sm := by
  intro R args mem k r h
  simp only [impl_mergesRoutes_sm] at h
  generalize hA : nilAVs args = args' at h
  split at h
  · rename_i z1 z2 z3 sh pk pf ps pb pr pt pe tn z4 z5 xs
    obtain ⟨hc, h1⟩ := chk_eq h
    simp only [Bool.and_eq_true, Nat.beq_eq_true_eq] at hc
    obtain ⟨⟨⟨⟨rfl, rfl⟩, rfl⟩, rfl⟩, rfl⟩ := hc
    obtain ⟨rs, hd0, h2⟩ := bi_eq h1
    have hd0 := unRoutes_eq hd0
    subst hd0
    obtain ⟨hp1, h3⟩ := chk_eq h2
    obtain ⟨hp2, h4⟩ := chk_eq h3
    obtain ⟨hp3, h5⟩ := chk_eq h4
    replace h := h5
    rcases br_eq h with ⟨hb0, h⟩ | ⟨hb0, h⟩
    · refine ⟨_, _, Spec.nl hA (spec_of_run tt_ok mixed (impl_mergesRoutes_C_Γ 0) Try.func45 (by kernel_rfl) (mem := [.sv [.sl 1, .d (.int .i64 sh), .d (.int .i64 pk), .d (.int .i64 pf), .d (.int .i64 ps), .d (.str pb), .d (.int .i64 pr), .d (.int .i64 pt), .d (.int .i64 pe), .d (.int .i64 tn)], .ar 3 0 (rs.map Route.pv)]) (Nat.le_of_ble_eq_true (by kernel_rfl)) (impl_mergesRoutes_C_Λ 0) ((impl_mergesRoutes_run 0 sh pk pf ps pb pr pt pe tn (rs.map Route.pv) _).trans ((impl_mergesRoutes_ceq 0 sh pk pf ps pb pr pt pe tn rs _ hp1 hp2 hp3).trans ?_))), h⟩
      simp only [br, hb0]
    · refine ⟨_, _, Spec.nl hA (spec_of_run tt_ok mixed (impl_mergesRoutes_C_Γ 0) Try.func45 (by kernel_rfl) (mem := [.sv [.sl 1, .d (.int .i64 sh), .d (.int .i64 pk), .d (.int .i64 pf), .d (.int .i64 ps), .d (.str pb), .d (.int .i64 pr), .d (.int .i64 pt), .d (.int .i64 pe), .d (.int .i64 tn)], .ar 3 0 (rs.map Route.pv)]) (Nat.le_of_ble_eq_true (by kernel_rfl)) (impl_mergesRoutes_C_Λ 0) ((impl_mergesRoutes_run 0 sh pk pf ps pb pr pt pe tn (rs.map Route.pv) _).trans ((impl_mergesRoutes_ceq 0 sh pk pf ps pb pr pt pe tn rs _ hp1 hp2 hp3).trans ?_))), h⟩
      simp only [br, hb0]
  · cases h

def Γ_impl_mergesRoutes : FuncId → Option Smr := Γc 45 impl_mergesRoutes_sm Γ_impl_splitsRoutes
theorem Γ_impl_mergesRoutes_ok : ∀ f s, Γ_impl_mergesRoutes f = some s → SmrOK Try.prog f s := Γc_ok impl_mergesRoutes_ok Γ_impl_splitsRoutes_ok


theorem mergesOk_len {rs : List Route} {p : Plan} : mergesOk rs p = true → p.kind = 2 := by
  intro h; simp only [mergesOk, Bool.and_eq_true, decide_eq_true_eq] at h; exact h.1

/- impl.ApplyDecision -/

def impl_ApplyDecision_c {R : Type} (N : Nat) (xs : List (List PV)) (sh : Int) (pk : Int) (pf : Int) (ps : Int) (pb : ByteArray) (pr : Int) (pt : Int) (pe : Int) (tn : Int) (dk : Int) (qk : Int) (qf : Int) (qs : Int) (qb : ByteArray) (qr : Int) (qt : Int) (qe : Int) (k : AV → List AB → Option R) : Option R :=
  bi (unRoutes xs) fun rs1 =>
  chk (decide (rs1.length ≤ 1048576))
  (br (!(masterOk ⟨rs1, sh, ⟨pk, pf, ps, pb, pr, pt, pe⟩, tn⟩))
   (k (.tup [.agg [.nil, .d (.int .i64 0), .d (.int .i64 0), .d (.int .i64 0), .d (.int .i64 0), .d (.str ⟨#[]⟩), .d (.int .i64 0), .d (.int .i64 0), .d (.int .i64 0), .d (.int .i64 0)], .d (.bool false)]) [])
   (bi (unRoutes xs) fun rs2 =>
    chk (decide (rs2.length ≤ 1048576))
    (br (dk == 1)
     (bi (unRoutes (rs2.map Route.pv)) fun rs3 =>
      chk (decide (0 ≤ tn))
      (br (beginOk ⟨pk, pf, ps, pb, pr, pt, pe⟩ sh tn ⟨qk, qf, qs, qb, qr, qt, qe⟩)
       (chk (decide ((rs2.map Route.pv).length = (rs3.map Route.pv).length))
        (br (dk != 1)
         (br (!((qk == 0) && ((qf == 0) && ((qs == 0) && (decide (qb = ⟨#[]⟩) && ((qr == 0) && ((qt == 0) && ((qe == 0) && true))))))))
          (bi (unRoutes xs) fun rs4 =>
           chk (decide (rs4.length ≤ 1048576))
           (k (.tup [.agg [.sl 0, .d (.int .i64 sh), .d (.int .i64 pk), .d (.int .i64 pf), .d (.int .i64 ps), .d (.str pb), .d (.int .i64 pr), .d (.int .i64 pt), .d (.int .i64 pe), .d (.int .i64 tn)], .d (.bool false)]) [.ar 3 0 (rs4.map Route.pv)]))
          (bi (unRoutes (rs3.map Route.pv)) fun rs5 =>
           chk (decide (rs5.length ≤ 1048576))
           (br (!(masterOk ⟨rs5, sh, ⟨qk, qf, qs, qb, qr, qt, qe⟩, (tn + 1)⟩))
            (bi (unRoutes xs) fun rs6 =>
             chk (decide (rs6.length ≤ 1048576))
             (k (.tup [.agg [.sl 0, .d (.int .i64 sh), .d (.int .i64 pk), .d (.int .i64 pf), .d (.int .i64 ps), .d (.str pb), .d (.int .i64 pr), .d (.int .i64 pt), .d (.int .i64 pe), .d (.int .i64 tn)], .d (.bool false)]) [.ar 3 0 (rs6.map Route.pv)]))
            (k (.tup [.agg [.sl 0, .d (.int .i64 sh), .d (.int .i64 qk), .d (.int .i64 qf), .d (.int .i64 qs), .d (.str qb), .d (.int .i64 qr), .d (.int .i64 qt), .d (.int .i64 qe), .d (.int .i64 (tn + 1))], .d (.bool true)]) [.ar 3 0 (rs3.map Route.pv)]))))
         (bi (unRoutes (rs3.map Route.pv)) fun rs7 =>
          chk (decide (rs7.length ≤ 1048576))
          (br (!(masterOk ⟨rs7, sh, ⟨qk, qf, qs, qb, qr, qt, qe⟩, (tn + 1)⟩))
           (bi (unRoutes xs) fun rs8 =>
            chk (decide (rs8.length ≤ 1048576))
            (k (.tup [.agg [.sl 0, .d (.int .i64 sh), .d (.int .i64 pk), .d (.int .i64 pf), .d (.int .i64 ps), .d (.str pb), .d (.int .i64 pr), .d (.int .i64 pt), .d (.int .i64 pe), .d (.int .i64 tn)], .d (.bool false)]) [.ar 3 0 (rs8.map Route.pv)]))
           (k (.tup [.agg [.sl 0, .d (.int .i64 sh), .d (.int .i64 qk), .d (.int .i64 qf), .d (.int .i64 qs), .d (.str qb), .d (.int .i64 qr), .d (.int .i64 qt), .d (.int .i64 qe), .d (.int .i64 (tn + 1))], .d (.bool true)]) [.ar 3 0 (rs3.map Route.pv)])))))
       (chk (decide ((rs2.map Route.pv).length = (rs3.map Route.pv).length))
        (bi (unRoutes xs) fun rs9 =>
         chk (decide (rs9.length ≤ 1048576))
         (k (.tup [.agg [.sl 0, .d (.int .i64 sh), .d (.int .i64 pk), .d (.int .i64 pf), .d (.int .i64 ps), .d (.str pb), .d (.int .i64 pr), .d (.int .i64 pt), .d (.int .i64 pe), .d (.int .i64 tn)], .d (.bool false)]) [.ar 3 0 (rs9.map Route.pv)])))))
     (br (dk == 2)
      (bi (unRoutes (rs2.map Route.pv)) fun rs10 =>
       chk (decide (rs10.length ≤ 1048576))
       (chk (routesOk rs10)
        (chk (decide (0 ≤ sh) && decide (sh ≤ 8))
         (br (!decide (pk = 1))
          (chk (decide ((rs2.map Route.pv).length = (rs10.map Route.pv).length))
           (bi (unRoutes xs) fun rs11 =>
            chk (decide (rs11.length ≤ 1048576))
            (k (.tup [.agg [.sl 0, .d (.int .i64 sh), .d (.int .i64 pk), .d (.int .i64 pf), .d (.int .i64 ps), .d (.str pb), .d (.int .i64 pr), .d (.int .i64 pt), .d (.int .i64 pe), .d (.int .i64 tn)], .d (.bool false)]) [.ar 3 0 (rs11.map Route.pv)])))
          (chk (decide ((rs2.map Route.pv).length = (rs10.map Route.pv).length))
           (br (!((splitR rs10 pf pb sh (sh + 1)).2))
            (bi (unRoutes xs) fun rs12 =>
             chk (decide (rs12.length ≤ 1048576))
             (k (.tup [.agg [.sl 0, .d (.int .i64 sh), .d (.int .i64 pk), .d (.int .i64 pf), .d (.int .i64 ps), .d (.str pb), .d (.int .i64 pr), .d (.int .i64 pt), .d (.int .i64 pe), .d (.int .i64 tn)], .d (.bool false)]) [.ar 3 0 (rs12.map Route.pv)]))
            (br (dk != 1)
             (br (!((qk == 0) && ((qf == 0) && ((qs == 0) && (decide (qb = ⟨#[]⟩) && ((qr == 0) && ((qt == 0) && ((qe == 0) && true))))))))
              (bi (unRoutes xs) fun rs13 =>
               chk (decide (rs13.length ≤ 1048576))
               (k (.tup [.agg [.sl 0, .d (.int .i64 sh), .d (.int .i64 pk), .d (.int .i64 pf), .d (.int .i64 ps), .d (.str pb), .d (.int .i64 pr), .d (.int .i64 pt), .d (.int .i64 pe), .d (.int .i64 tn)], .d (.bool false)]) [.ar 3 0 (rs13.map Route.pv)]))
              (bi (unRoutes ((splitR rs10 pf pb sh (sh + 1)).1.map Route.pv)) fun rs14 =>
               chk (decide (rs14.length ≤ 1048576))
               (br (!(masterOk ⟨rs14, (sh + 2), ⟨(0 : Int), (0 : Int), (0 : Int), ⟨#[]⟩, (0 : Int), (0 : Int), (0 : Int)⟩, tn⟩))
                (bi (unRoutes xs) fun rs15 =>
                 chk (decide (rs15.length ≤ 1048576))
                 (k (.tup [.agg [.sl 0, .d (.int .i64 sh), .d (.int .i64 pk), .d (.int .i64 pf), .d (.int .i64 ps), .d (.str pb), .d (.int .i64 pr), .d (.int .i64 pt), .d (.int .i64 pe), .d (.int .i64 tn)], .d (.bool false)]) [.ar 3 0 (rs15.map Route.pv)]))
                (k (.tup [.agg [.sl 0, .d (.int .i64 (sh + 2)), .d (.int .i64 0), .d (.int .i64 0), .d (.int .i64 0), .d (.str ⟨#[]⟩), .d (.int .i64 0), .d (.int .i64 0), .d (.int .i64 0), .d (.int .i64 tn)], .d (.bool true)]) [.ar 3 0 ((splitR rs10 pf pb sh (sh + 1)).1.map Route.pv)]))))
             (bi (unRoutes ((splitR rs10 pf pb sh (sh + 1)).1.map Route.pv)) fun rs16 =>
              chk (decide (rs16.length ≤ 1048576))
              (br (!(masterOk ⟨rs16, (sh + 2), ⟨(0 : Int), (0 : Int), (0 : Int), ⟨#[]⟩, (0 : Int), (0 : Int), (0 : Int)⟩, tn⟩))
               (bi (unRoutes xs) fun rs17 =>
                chk (decide (rs17.length ≤ 1048576))
                (k (.tup [.agg [.sl 0, .d (.int .i64 sh), .d (.int .i64 pk), .d (.int .i64 pf), .d (.int .i64 ps), .d (.str pb), .d (.int .i64 pr), .d (.int .i64 pt), .d (.int .i64 pe), .d (.int .i64 tn)], .d (.bool false)]) [.ar 3 0 (rs17.map Route.pv)]))
               (k (.tup [.agg [.sl 0, .d (.int .i64 (sh + 2)), .d (.int .i64 0), .d (.int .i64 0), .d (.int .i64 0), .d (.str ⟨#[]⟩), .d (.int .i64 0), .d (.int .i64 0), .d (.int .i64 0), .d (.int .i64 tn)], .d (.bool true)]) [.ar 3 0 ((splitR rs10 pf pb sh (sh + 1)).1.map Route.pv)]))))))))))
      (br (dk == 3)
       (bi (unRoutes (rs2.map Route.pv)) fun rs18 =>
        chk (decide (rs18.length ≤ 1048576))
        (chk (routesOk rs18)
         (chk (decide (0 ≤ sh) && decide (sh ≤ 8))
          (br (!mergesOk rs18 ⟨pk, pf, ps, pb, pr, pt, pe⟩)
           (chk (decide ((rs2.map Route.pv).length = (rs18.map Route.pv).length))
            (bi (unRoutes xs) fun rs19 =>
             chk (decide (rs19.length ≤ 1048576))
             (k (.tup [.agg [.sl 0, .d (.int .i64 sh), .d (.int .i64 pk), .d (.int .i64 pf), .d (.int .i64 ps), .d (.str pb), .d (.int .i64 pr), .d (.int .i64 pt), .d (.int .i64 pe), .d (.int .i64 tn)], .d (.bool false)]) [.ar 3 0 (rs19.map Route.pv)])))
           (chk (decide ((rs2.map Route.pv).length = (rs18.map Route.pv).length))
            (br (!((mergeR rs18 pf sh).2))
             (bi (unRoutes xs) fun rs20 =>
              chk (decide (rs20.length ≤ 1048576))
              (k (.tup [.agg [.sl 0, .d (.int .i64 sh), .d (.int .i64 pk), .d (.int .i64 pf), .d (.int .i64 ps), .d (.str pb), .d (.int .i64 pr), .d (.int .i64 pt), .d (.int .i64 pe), .d (.int .i64 tn)], .d (.bool false)]) [.ar 3 0 (rs20.map Route.pv)]))
             (br (dk != 1)
              (br (!((qk == 0) && ((qf == 0) && ((qs == 0) && (decide (qb = ⟨#[]⟩) && ((qr == 0) && ((qt == 0) && ((qe == 0) && true))))))))
               (bi (unRoutes xs) fun rs21 =>
                chk (decide (rs21.length ≤ 1048576))
                (k (.tup [.agg [.sl 0, .d (.int .i64 sh), .d (.int .i64 pk), .d (.int .i64 pf), .d (.int .i64 ps), .d (.str pb), .d (.int .i64 pr), .d (.int .i64 pt), .d (.int .i64 pe), .d (.int .i64 tn)], .d (.bool false)]) [.ar 3 0 (rs21.map Route.pv)]))
               (bi (unRoutes ((mergeR rs18 pf sh).1.map Route.pv)) fun rs22 =>
                chk (decide (rs22.length ≤ 1048576))
                (br (!(masterOk ⟨rs22, (sh + 1), ⟨(0 : Int), (0 : Int), (0 : Int), ⟨#[]⟩, (0 : Int), (0 : Int), (0 : Int)⟩, tn⟩))
                 (bi (unRoutes xs) fun rs23 =>
                  chk (decide (rs23.length ≤ 1048576))
                  (k (.tup [.agg [.sl 0, .d (.int .i64 sh), .d (.int .i64 pk), .d (.int .i64 pf), .d (.int .i64 ps), .d (.str pb), .d (.int .i64 pr), .d (.int .i64 pt), .d (.int .i64 pe), .d (.int .i64 tn)], .d (.bool false)]) [.ar 3 0 (rs23.map Route.pv)]))
                 (k (.tup [.agg [.sl 0, .d (.int .i64 (sh + 1)), .d (.int .i64 0), .d (.int .i64 0), .d (.int .i64 0), .d (.str ⟨#[]⟩), .d (.int .i64 0), .d (.int .i64 0), .d (.int .i64 0), .d (.int .i64 tn)], .d (.bool true)]) [.ar 3 0 ((mergeR rs18 pf sh).1.map Route.pv)]))))
              (bi (unRoutes ((mergeR rs18 pf sh).1.map Route.pv)) fun rs24 =>
               chk (decide (rs24.length ≤ 1048576))
               (br (!(masterOk ⟨rs24, (sh + 1), ⟨(0 : Int), (0 : Int), (0 : Int), ⟨#[]⟩, (0 : Int), (0 : Int), (0 : Int)⟩, tn⟩))
                (bi (unRoutes xs) fun rs25 =>
                 chk (decide (rs25.length ≤ 1048576))
                 (k (.tup [.agg [.sl 0, .d (.int .i64 sh), .d (.int .i64 pk), .d (.int .i64 pf), .d (.int .i64 ps), .d (.str pb), .d (.int .i64 pr), .d (.int .i64 pt), .d (.int .i64 pe), .d (.int .i64 tn)], .d (.bool false)]) [.ar 3 0 (rs25.map Route.pv)]))
                (k (.tup [.agg [.sl 0, .d (.int .i64 (sh + 1)), .d (.int .i64 0), .d (.int .i64 0), .d (.int .i64 0), .d (.str ⟨#[]⟩), .d (.int .i64 0), .d (.int .i64 0), .d (.int .i64 0), .d (.int .i64 tn)], .d (.bool true)]) [.ar 3 0 ((mergeR rs18 pf sh).1.map Route.pv)]))))))))))
       (br (dk == 4)
        (br (pk == 3)
         (br (!(pe == 0))
          (bi (unRoutes xs) fun rs26 =>
           chk (decide (rs26.length ≤ 1048576))
           (k (.tup [.agg [.sl 0, .d (.int .i64 sh), .d (.int .i64 pk), .d (.int .i64 pf), .d (.int .i64 ps), .d (.str pb), .d (.int .i64 pr), .d (.int .i64 pt), .d (.int .i64 pe), .d (.int .i64 tn)], .d (.bool false)]) [.ar 3 0 (rs26.map Route.pv)]))
          (br (dk != 1)
           (br (!((qk == 0) && ((qf == 0) && ((qs == 0) && (decide (qb = ⟨#[]⟩) && ((qr == 0) && ((qt == 0) && ((qe == 0) && true))))))))
            (bi (unRoutes xs) fun rs27 =>
             chk (decide (rs27.length ≤ 1048576))
             (k (.tup [.agg [.sl 0, .d (.int .i64 sh), .d (.int .i64 pk), .d (.int .i64 pf), .d (.int .i64 ps), .d (.str pb), .d (.int .i64 pr), .d (.int .i64 pt), .d (.int .i64 pe), .d (.int .i64 tn)], .d (.bool false)]) [.ar 3 0 (rs27.map Route.pv)]))
            (bi (unRoutes (rs2.map Route.pv)) fun rs28 =>
             chk (decide (rs28.length ≤ 1048576))
             (br (!(masterOk ⟨rs28, sh, ⟨pk, pf, ps, pb, pr, pt, (1 : Int)⟩, tn⟩))
              (bi (unRoutes xs) fun rs29 =>
               chk (decide (rs29.length ≤ 1048576))
               (k (.tup [.agg [.sl 0, .d (.int .i64 sh), .d (.int .i64 pk), .d (.int .i64 pf), .d (.int .i64 ps), .d (.str pb), .d (.int .i64 pr), .d (.int .i64 pt), .d (.int .i64 pe), .d (.int .i64 tn)], .d (.bool false)]) [.ar 3 0 (rs29.map Route.pv)]))
              (k (.tup [.agg [.sl 0, .d (.int .i64 sh), .d (.int .i64 pk), .d (.int .i64 pf), .d (.int .i64 ps), .d (.str pb), .d (.int .i64 pr), .d (.int .i64 pt), .d (.int .i64 1), .d (.int .i64 tn)], .d (.bool true)]) [.ar 3 0 (rs2.map Route.pv)]))))
           (bi (unRoutes (rs2.map Route.pv)) fun rs30 =>
            chk (decide (rs30.length ≤ 1048576))
            (br (!(masterOk ⟨rs30, sh, ⟨pk, pf, ps, pb, pr, pt, (1 : Int)⟩, tn⟩))
             (bi (unRoutes xs) fun rs31 =>
              chk (decide (rs31.length ≤ 1048576))
              (k (.tup [.agg [.sl 0, .d (.int .i64 sh), .d (.int .i64 pk), .d (.int .i64 pf), .d (.int .i64 ps), .d (.str pb), .d (.int .i64 pr), .d (.int .i64 pt), .d (.int .i64 pe), .d (.int .i64 tn)], .d (.bool false)]) [.ar 3 0 (rs31.map Route.pv)]))
             (k (.tup [.agg [.sl 0, .d (.int .i64 sh), .d (.int .i64 pk), .d (.int .i64 pf), .d (.int .i64 ps), .d (.str pb), .d (.int .i64 pr), .d (.int .i64 pt), .d (.int .i64 1), .d (.int .i64 tn)], .d (.bool true)]) [.ar 3 0 (rs2.map Route.pv)])))))
         (bi (unRoutes xs) fun rs32 =>
          chk (decide (rs32.length ≤ 1048576))
          (k (.tup [.agg [.sl 0, .d (.int .i64 sh), .d (.int .i64 pk), .d (.int .i64 pf), .d (.int .i64 ps), .d (.str pb), .d (.int .i64 pr), .d (.int .i64 pt), .d (.int .i64 pe), .d (.int .i64 tn)], .d (.bool false)]) [.ar 3 0 (rs32.map Route.pv)])))
        (br (dk == 5)
         (br (!(pk == 3))
          (bi (unRoutes xs) fun rs33 =>
           chk (decide (rs33.length ≤ 1048576))
           (k (.tup [.agg [.sl 0, .d (.int .i64 sh), .d (.int .i64 pk), .d (.int .i64 pf), .d (.int .i64 ps), .d (.str pb), .d (.int .i64 pr), .d (.int .i64 pt), .d (.int .i64 pe), .d (.int .i64 tn)], .d (.bool false)]) [.ar 3 0 (rs33.map Route.pv)]))
          (br (dk != 1)
           (br (!((qk == 0) && ((qf == 0) && ((qs == 0) && (decide (qb = ⟨#[]⟩) && ((qr == 0) && ((qt == 0) && ((qe == 0) && true))))))))
            (bi (unRoutes xs) fun rs34 =>
             chk (decide (rs34.length ≤ 1048576))
             (k (.tup [.agg [.sl 0, .d (.int .i64 sh), .d (.int .i64 pk), .d (.int .i64 pf), .d (.int .i64 ps), .d (.str pb), .d (.int .i64 pr), .d (.int .i64 pt), .d (.int .i64 pe), .d (.int .i64 tn)], .d (.bool false)]) [.ar 3 0 (rs34.map Route.pv)]))
            (bi (unRoutes (rs2.map Route.pv)) fun rs35 =>
             chk (decide (rs35.length ≤ 1048576))
             (br (!(masterOk ⟨rs35, sh, ⟨(0 : Int), (0 : Int), (0 : Int), ⟨#[]⟩, (0 : Int), (0 : Int), (0 : Int)⟩, tn⟩))
              (bi (unRoutes xs) fun rs36 =>
               chk (decide (rs36.length ≤ 1048576))
               (k (.tup [.agg [.sl 0, .d (.int .i64 sh), .d (.int .i64 pk), .d (.int .i64 pf), .d (.int .i64 ps), .d (.str pb), .d (.int .i64 pr), .d (.int .i64 pt), .d (.int .i64 pe), .d (.int .i64 tn)], .d (.bool false)]) [.ar 3 0 (rs36.map Route.pv)]))
              (k (.tup [.agg [.sl 0, .d (.int .i64 sh), .d (.int .i64 0), .d (.int .i64 0), .d (.int .i64 0), .d (.str ⟨#[]⟩), .d (.int .i64 0), .d (.int .i64 0), .d (.int .i64 0), .d (.int .i64 tn)], .d (.bool true)]) [.ar 3 0 (rs2.map Route.pv)]))))
           (bi (unRoutes (rs2.map Route.pv)) fun rs37 =>
            chk (decide (rs37.length ≤ 1048576))
            (br (!(masterOk ⟨rs37, sh, ⟨(0 : Int), (0 : Int), (0 : Int), ⟨#[]⟩, (0 : Int), (0 : Int), (0 : Int)⟩, tn⟩))
             (bi (unRoutes xs) fun rs38 =>
              chk (decide (rs38.length ≤ 1048576))
              (k (.tup [.agg [.sl 0, .d (.int .i64 sh), .d (.int .i64 pk), .d (.int .i64 pf), .d (.int .i64 ps), .d (.str pb), .d (.int .i64 pr), .d (.int .i64 pt), .d (.int .i64 pe), .d (.int .i64 tn)], .d (.bool false)]) [.ar 3 0 (rs38.map Route.pv)]))
             (k (.tup [.agg [.sl 0, .d (.int .i64 sh), .d (.int .i64 0), .d (.int .i64 0), .d (.int .i64 0), .d (.str ⟨#[]⟩), .d (.int .i64 0), .d (.int .i64 0), .d (.int .i64 0), .d (.int .i64 tn)], .d (.bool true)]) [.ar 3 0 (rs2.map Route.pv)])))))
         (bi (unRoutes xs) fun rs39 =>
          chk (decide (rs39.length ≤ 1048576))
          (k (.tup [.agg [.sl 0, .d (.int .i64 sh), .d (.int .i64 pk), .d (.int .i64 pf), .d (.int .i64 ps), .d (.str pb), .d (.int .i64 pr), .d (.int .i64 pt), .d (.int .i64 pe), .d (.int .i64 tn)], .d (.bool false)]) [.ar 3 0 (rs39.map Route.pv)])))))))))

def impl_ApplyDecision_C (N : Nat) : CC := ⟨Γ_impl_mergesRoutes, Λ0, Δ0, Μ0⟩

theorem impl_ApplyDecision_C_Γ (N : Nat) : ∀ f s, (impl_ApplyDecision_C N).Γ f = some s → SmrOK Try.prog f s := Γ_impl_mergesRoutes_ok

theorem impl_ApplyDecision_C_Λ (N : Nat) : ∀ c, Try.f11.body = some c → ∀ b ∈ loopsIn c, ∀ s, (impl_ApplyDecision_C N).Λ (lid b) = some s → LOK Try.prog Try.f11.ntmps 0 b s :=
  LOKs_ofF (bs := []) (by kernel_rfl) LOKs_n

theorem impl_ApplyDecision_run {R : Type} (N : Nat) (xs : List (List PV)) (sh : Int) (pk : Int) (pf : Int) (ps : Int) (pb : ByteArray) (pr : Int) (pt : Int) (pe : Int) (tn : Int) (dk : Int) (qk : Int) (qf : Int) (qs : Int) (qb : ByteArray) (qr : Int) (qt : Int) (qe : Int) (k : AV → List AB → Option R) :
    cfunN tt (impl_ApplyDecision_C N) Try.f11 0 [.agg [.d (.ls xs), .d (.int .i64 sh), .d (.int .i64 pk), .d (.int .i64 pf), .d (.int .i64 ps), .d (.str pb), .d (.int .i64 pr), .d (.int .i64 pt), .d (.int .i64 pe), .d (.int .i64 tn)], .agg [.d (.int .i64 dk), .d (.int .i64 qk), .d (.int .i64 qf), .d (.int .i64 qs), .d (.str qb), .d (.int .i64 qr), .d (.int .i64 qt), .d (.int .i64 qe)]] [] k = impl_ApplyDecision_c N xs sh pk pf ps pb pr pt pe tn dk qk qf qs qb qr qt qe k := by kernel_rfl

theorem impl_ApplyDecision_ceq {R : Type} (N : Nat) (sh : Int) (pk : Int) (pf : Int) (ps : Int) (pb : ByteArray) (pr : Int) (pt : Int) (pe : Int) (tn : Int) (dk : Int) (qk : Int) (qf : Int) (qs : Int) (qb : ByteArray) (qr : Int) (qt : Int) (qe : Int) (rs : List Route) (k : AV → List AB → Option R) (hp1 : (decide (rs.length ≤ 1048576)) = true) :
    impl_ApplyDecision_c N (rs.map Route.pv) sh pk pf ps pb pr pt pe tn dk qk qf qs qb qr qt qe k = br (masterOk ⟨rs, sh, ⟨pk, pf, ps, pb, pr, pt, pe⟩, tn⟩) (k (.tup [.agg [.sl 0, .d (.int .i64 ((applyDec ⟨rs, sh, ⟨pk, pf, ps, pb, pr, pt, pe⟩, tn⟩ ⟨dk, ⟨qk, qf, qs, qb, qr, qt, qe⟩⟩).1.shards)), .d (.int .i64 ((applyDec ⟨rs, sh, ⟨pk, pf, ps, pb, pr, pt, pe⟩, tn⟩ ⟨dk, ⟨qk, qf, qs, qb, qr, qt, qe⟩⟩).1.work.kind)), .d (.int .i64 ((applyDec ⟨rs, sh, ⟨pk, pf, ps, pb, pr, pt, pe⟩, tn⟩ ⟨dk, ⟨qk, qf, qs, qb, qr, qt, qe⟩⟩).1.work.first)), .d (.int .i64 ((applyDec ⟨rs, sh, ⟨pk, pf, ps, pb, pr, pt, pe⟩, tn⟩ ⟨dk, ⟨qk, qf, qs, qb, qr, qt, qe⟩⟩).1.work.second)), .d (.str ((applyDec ⟨rs, sh, ⟨pk, pf, ps, pb, pr, pt, pe⟩, tn⟩ ⟨dk, ⟨qk, qf, qs, qb, qr, qt, qe⟩⟩).1.work.key)), .d (.int .i64 ((applyDec ⟨rs, sh, ⟨pk, pf, ps, pb, pr, pt, pe⟩, tn⟩ ⟨dk, ⟨qk, qf, qs, qb, qr, qt, qe⟩⟩).1.work.src)), .d (.int .i64 ((applyDec ⟨rs, sh, ⟨pk, pf, ps, pb, pr, pt, pe⟩, tn⟩ ⟨dk, ⟨qk, qf, qs, qb, qr, qt, qe⟩⟩).1.work.dst)), .d (.int .i64 ((applyDec ⟨rs, sh, ⟨pk, pf, ps, pb, pr, pt, pe⟩, tn⟩ ⟨dk, ⟨qk, qf, qs, qb, qr, qt, qe⟩⟩).1.work.step)), .d (.int .i64 ((applyDec ⟨rs, sh, ⟨pk, pf, ps, pb, pr, pt, pe⟩, tn⟩ ⟨dk, ⟨qk, qf, qs, qb, qr, qt, qe⟩⟩).1.turn))], .d (.bool ((applyDec ⟨rs, sh, ⟨pk, pf, ps, pb, pr, pt, pe⟩, tn⟩ ⟨dk, ⟨qk, qf, qs, qb, qr, qt, qe⟩⟩).2))]) [.ar 3 0 ((applyDec ⟨rs, sh, ⟨pk, pf, ps, pb, pr, pt, pe⟩, tn⟩ ⟨dk, ⟨qk, qf, qs, qb, qr, qt, qe⟩⟩).1.routes.map Route.pv)]) (k (.tup [.agg [.nil, .d (.int .i64 0), .d (.int .i64 0), .d (.int .i64 0), .d (.int .i64 0), .d (.str ⟨#[]⟩), .d (.int .i64 0), .d (.int .i64 0), .d (.int .i64 0), .d (.int .i64 0)], .d (.bool false)]) []) := by
  have hp1' := hp1
  simp only [decide_eq_true_eq] at hp1'
  simp only [impl_ApplyDecision_c, Route.pv, Iv.pv, dInt_c, dStr_c, List.length_cons, List.length_nil, Nat.zero_add, Nat.reduceAdd, chk_beq, chk_t, br_t, br_f, bi_s, unRoutes_map, unIvs_map, hp1, List.length_map, noPlan_eq]
  simp only [Route.pv, Iv.pv, dInt_c, dStr_c, List.length_cons, List.length_nil, Nat.zero_add, Nat.reduceAdd, chk_beq, chk_t, br_t, br_f, bi_s, unRoutes_map, unIvs_map, bne_not, br_not, beq_dec, decide_true]
  cases hm : masterOk ⟨rs, sh, ⟨pk, pf, ps, pb, pr, pt, pe⟩, tn⟩
  · rfl
  · have M := mok hm
    have e1 : decide ((splitR rs pf pb sh (sh + 1)).1.length ≤ 1048576) = true := decide_eq_true (by have := splitR_len M.len pf pb sh (sh + 1); omega)
    have e2 : decide ((mergeR rs pf sh).1.length ≤ 1048576) = true := decide_eq_true (by have := mergeR_len M.len pf sh; omega)
    have e3 : (decide (0 ≤ sh) && decide (sh ≤ 8)) = true := by have := M.s1; have := M.s8; simp; omega
    have e4 : (⟨0, 0, 0, ⟨#[]⟩, 0, 0, 0⟩ : Plan) = noPlan := rfl
    simp only [e1, e2, e3, M.ok, decide_eq_true M.t0, chk_t, br_t, br_f, e4]
    simp only [applyDec, hm, if_true, cand]
    by_cases h1 : dk = 1
    · subst h1
      simp only [decide_true, br_t, if_true]
      cases hb : beginOk ⟨pk, pf, ps, pb, pr, pt, pe⟩ sh tn ⟨qk, qf, qs, qb, qr, qt, qe⟩
      · rfl
      · simp only [br_t, if_true]
        cases hn : masterOk ⟨rs, sh, ⟨qk, qf, qs, qb, qr, qt, qe⟩, tn + 1⟩ <;> rfl
    simp only [h1, decide_false, br_f, if_false]
    by_cases hq : Plan.mk qk qf qs qb qr qt qe = noPlan
    · simp only [hq, decide_true, br_t, ne_eq, not_true_eq_false, if_false]
      by_cases h2 : dk = 2
      · subst h2
        simp only [decide_true, br_t, if_true]
        by_cases hk : pk = 1
        · simp only [hk, decide_true, br_t, true_and]
          cases hs : (splitR rs pf pb sh (sh + 1)).2
          · rfl
          · simp only [br_t, if_true]
            cases hn : masterOk ⟨(splitR rs pf pb sh (sh + 1)).1, sh + 2, noPlan, tn⟩ <;> rfl
        · simp only [hk, decide_false, br_f, false_and, if_false]
      simp only [h2, decide_false, br_f, if_false]
      by_cases h3 : dk = 3
      · subst h3
        simp only [decide_true, br_t, if_true]
        cases hmg : mergesOk rs ⟨pk, pf, ps, pb, pr, pt, pe⟩
        · rfl
        · simp only [br_t, true_and]
          cases hs : (mergeR rs pf sh).2
          · rfl
          · simp only [br_t, if_true]
            cases hn : masterOk ⟨(mergeR rs pf sh).1, sh + 1, noPlan, tn⟩ <;> rfl
      simp only [h3, decide_false, br_f, if_false]
      by_cases h4 : dk = 4
      · subst h4
        simp only [decide_true, br_t, if_true]
        by_cases hk : pk = 3
        · subst hk
          by_cases he : pe = 0
          · subst he
            simp only [decide_true, br_t, true_and, if_true]
            cases hn : masterOk ⟨rs, sh, ⟨3, pf, ps, pb, pr, pt, 1⟩, tn⟩ <;> rfl
          · simp only [he, decide_true, decide_false, br_t, br_f, true_and, if_false]
        · simp only [hk, decide_false, br_f, false_and, if_false]
      simp only [h4, decide_false, br_f, if_false]
      by_cases h5 : dk = 5
      · subst h5
        simp only [decide_true, br_t, if_true]
        by_cases hk : pk = 3
        · subst hk
          simp only [decide_true, br_t, if_true]
          cases hn : masterOk ⟨rs, sh, noPlan, tn⟩ <;> rfl
        · simp only [hk, decide_false, br_f, if_false]
      simp only [h5, decide_false, br_f, if_false]
    · simp only [hq, decide_false, br_f, ne_eq, not_false_eq_true, if_true, br_same]
theorem impl_ApplyDecision_weq (sh : Int) (pk : Int) (pf : Int) (ps : Int) (pb : ByteArray) (pr : Int) (pt : Int) (pe : Int) (tn : Int) (dk : Int) (qk : Int) (qf : Int) (qs : Int) (qb : ByteArray) (qr : Int) (qt : Int) (qe : Int) (rs : List Route) (hp1 : (decide (rs.length ≤ 1048576)) = true) :
    br (masterOk ⟨rs, sh, ⟨pk, pf, ps, pb, pr, pt, pe⟩, tn⟩) ((fun a m => some (wdA 3 a m)) (.tup [.agg [.sl 0, .d (.int .i64 ((applyDec ⟨rs, sh, ⟨pk, pf, ps, pb, pr, pt, pe⟩, tn⟩ ⟨dk, ⟨qk, qf, qs, qb, qr, qt, qe⟩⟩).1.shards)), .d (.int .i64 ((applyDec ⟨rs, sh, ⟨pk, pf, ps, pb, pr, pt, pe⟩, tn⟩ ⟨dk, ⟨qk, qf, qs, qb, qr, qt, qe⟩⟩).1.work.kind)), .d (.int .i64 ((applyDec ⟨rs, sh, ⟨pk, pf, ps, pb, pr, pt, pe⟩, tn⟩ ⟨dk, ⟨qk, qf, qs, qb, qr, qt, qe⟩⟩).1.work.first)), .d (.int .i64 ((applyDec ⟨rs, sh, ⟨pk, pf, ps, pb, pr, pt, pe⟩, tn⟩ ⟨dk, ⟨qk, qf, qs, qb, qr, qt, qe⟩⟩).1.work.second)), .d (.str ((applyDec ⟨rs, sh, ⟨pk, pf, ps, pb, pr, pt, pe⟩, tn⟩ ⟨dk, ⟨qk, qf, qs, qb, qr, qt, qe⟩⟩).1.work.key)), .d (.int .i64 ((applyDec ⟨rs, sh, ⟨pk, pf, ps, pb, pr, pt, pe⟩, tn⟩ ⟨dk, ⟨qk, qf, qs, qb, qr, qt, qe⟩⟩).1.work.src)), .d (.int .i64 ((applyDec ⟨rs, sh, ⟨pk, pf, ps, pb, pr, pt, pe⟩, tn⟩ ⟨dk, ⟨qk, qf, qs, qb, qr, qt, qe⟩⟩).1.work.dst)), .d (.int .i64 ((applyDec ⟨rs, sh, ⟨pk, pf, ps, pb, pr, pt, pe⟩, tn⟩ ⟨dk, ⟨qk, qf, qs, qb, qr, qt, qe⟩⟩).1.work.step)), .d (.int .i64 ((applyDec ⟨rs, sh, ⟨pk, pf, ps, pb, pr, pt, pe⟩, tn⟩ ⟨dk, ⟨qk, qf, qs, qb, qr, qt, qe⟩⟩).1.turn))], .d (.bool ((applyDec ⟨rs, sh, ⟨pk, pf, ps, pb, pr, pt, pe⟩, tn⟩ ⟨dk, ⟨qk, qf, qs, qb, qr, qt, qe⟩⟩).2))]) [.ar 3 0 ((applyDec ⟨rs, sh, ⟨pk, pf, ps, pb, pr, pt, pe⟩, tn⟩ ⟨dk, ⟨qk, qf, qs, qb, qr, qt, qe⟩⟩).1.routes.map Route.pv)]) ((fun a m => some (wdA 3 a m)) (.tup [.agg [.nil, .d (.int .i64 0), .d (.int .i64 0), .d (.int .i64 0), .d (.int .i64 0), .d (.str ⟨#[]⟩), .d (.int .i64 0), .d (.int .i64 0), .d (.int .i64 0), .d (.int .i64 0)], .d (.bool false)]) []) = some (.tup [.agg [.sl 0, .d (.int .i64 ((applyDec ⟨rs, sh, ⟨pk, pf, ps, pb, pr, pt, pe⟩, tn⟩ ⟨dk, ⟨qk, qf, qs, qb, qr, qt, qe⟩⟩).1.shards)), .d (.int .i64 ((applyDec ⟨rs, sh, ⟨pk, pf, ps, pb, pr, pt, pe⟩, tn⟩ ⟨dk, ⟨qk, qf, qs, qb, qr, qt, qe⟩⟩).1.work.kind)), .d (.int .i64 ((applyDec ⟨rs, sh, ⟨pk, pf, ps, pb, pr, pt, pe⟩, tn⟩ ⟨dk, ⟨qk, qf, qs, qb, qr, qt, qe⟩⟩).1.work.first)), .d (.int .i64 ((applyDec ⟨rs, sh, ⟨pk, pf, ps, pb, pr, pt, pe⟩, tn⟩ ⟨dk, ⟨qk, qf, qs, qb, qr, qt, qe⟩⟩).1.work.second)), .d (.str ((applyDec ⟨rs, sh, ⟨pk, pf, ps, pb, pr, pt, pe⟩, tn⟩ ⟨dk, ⟨qk, qf, qs, qb, qr, qt, qe⟩⟩).1.work.key)), .d (.int .i64 ((applyDec ⟨rs, sh, ⟨pk, pf, ps, pb, pr, pt, pe⟩, tn⟩ ⟨dk, ⟨qk, qf, qs, qb, qr, qt, qe⟩⟩).1.work.src)), .d (.int .i64 ((applyDec ⟨rs, sh, ⟨pk, pf, ps, pb, pr, pt, pe⟩, tn⟩ ⟨dk, ⟨qk, qf, qs, qb, qr, qt, qe⟩⟩).1.work.dst)), .d (.int .i64 ((applyDec ⟨rs, sh, ⟨pk, pf, ps, pb, pr, pt, pe⟩, tn⟩ ⟨dk, ⟨qk, qf, qs, qb, qr, qt, qe⟩⟩).1.work.step)), .d (.int .i64 ((applyDec ⟨rs, sh, ⟨pk, pf, ps, pb, pr, pt, pe⟩, tn⟩ ⟨dk, ⟨qk, qf, qs, qb, qr, qt, qe⟩⟩).1.turn))], .d (.bool ((applyDec ⟨rs, sh, ⟨pk, pf, ps, pb, pr, pt, pe⟩, tn⟩ ⟨dk, ⟨qk, qf, qs, qb, qr, qt, qe⟩⟩).2))], [.ar 3 0 ((applyDec ⟨rs, sh, ⟨pk, pf, ps, pb, pr, pt, pe⟩, tn⟩ ⟨dk, ⟨qk, qf, qs, qb, qr, qt, qe⟩⟩).1.routes.map Route.pv)]) := by
  cases hm : masterOk ⟨rs, sh, ⟨pk, pf, ps, pb, pr, pt, pe⟩, tn⟩
  · simp only [br_f, applyDec, hm]; rfl
  · simp only [br_t]; rfl
def impl_ApplyDecision_sm : Smr := ⟨[false, false], fun R args mem k => match nilAVs args, mem with
  | [.agg [.d (.ls xs), .d (.int .i64 sh), .d (.int .i64 pk), .d (.int .i64 pf), .d (.int .i64 ps), .d (.str pb), .d (.int .i64 pr), .d (.int .i64 pt), .d (.int .i64 pe), .d (.int .i64 tn)], .agg [.d (.int .i64 dk), .d (.int .i64 qk), .d (.int .i64 qf), .d (.int .i64 qs), .d (.str qb), .d (.int .i64 qr), .d (.int .i64 qt), .d (.int .i64 qe)]], [] => bi (unRoutes xs) fun rs => chk (decide (rs.length ≤ 1048576)) (k (.tup [.agg [.sl 0, .d (.int .i64 ((applyDec ⟨rs, sh, ⟨pk, pf, ps, pb, pr, pt, pe⟩, tn⟩ ⟨dk, ⟨qk, qf, qs, qb, qr, qt, qe⟩⟩).1.shards)), .d (.int .i64 ((applyDec ⟨rs, sh, ⟨pk, pf, ps, pb, pr, pt, pe⟩, tn⟩ ⟨dk, ⟨qk, qf, qs, qb, qr, qt, qe⟩⟩).1.work.kind)), .d (.int .i64 ((applyDec ⟨rs, sh, ⟨pk, pf, ps, pb, pr, pt, pe⟩, tn⟩ ⟨dk, ⟨qk, qf, qs, qb, qr, qt, qe⟩⟩).1.work.first)), .d (.int .i64 ((applyDec ⟨rs, sh, ⟨pk, pf, ps, pb, pr, pt, pe⟩, tn⟩ ⟨dk, ⟨qk, qf, qs, qb, qr, qt, qe⟩⟩).1.work.second)), .d (.str ((applyDec ⟨rs, sh, ⟨pk, pf, ps, pb, pr, pt, pe⟩, tn⟩ ⟨dk, ⟨qk, qf, qs, qb, qr, qt, qe⟩⟩).1.work.key)), .d (.int .i64 ((applyDec ⟨rs, sh, ⟨pk, pf, ps, pb, pr, pt, pe⟩, tn⟩ ⟨dk, ⟨qk, qf, qs, qb, qr, qt, qe⟩⟩).1.work.src)), .d (.int .i64 ((applyDec ⟨rs, sh, ⟨pk, pf, ps, pb, pr, pt, pe⟩, tn⟩ ⟨dk, ⟨qk, qf, qs, qb, qr, qt, qe⟩⟩).1.work.dst)), .d (.int .i64 ((applyDec ⟨rs, sh, ⟨pk, pf, ps, pb, pr, pt, pe⟩, tn⟩ ⟨dk, ⟨qk, qf, qs, qb, qr, qt, qe⟩⟩).1.work.step)), .d (.int .i64 ((applyDec ⟨rs, sh, ⟨pk, pf, ps, pb, pr, pt, pe⟩, tn⟩ ⟨dk, ⟨qk, qf, qs, qb, qr, qt, qe⟩⟩).1.turn))], .d (.bool ((applyDec ⟨rs, sh, ⟨pk, pf, ps, pb, pr, pt, pe⟩, tn⟩ ⟨dk, ⟨qk, qf, qs, qb, qr, qt, qe⟩⟩).2))]) [.ar 3 0 ((applyDec ⟨rs, sh, ⟨pk, pf, ps, pb, pr, pt, pe⟩, tn⟩ ⟨dk, ⟨qk, qf, qs, qb, qr, qt, qe⟩⟩).1.routes.map Route.pv)])
  | _, _ => none⟩

theorem impl_ApplyDecision_ok : SmrOK Try.prog 11 impl_ApplyDecision_sm := by
  intro R args mem k r h
  simp only [impl_ApplyDecision_sm] at h
  generalize hA : nilAVs args = args' at h
  split at h
  · rename_i xs sh pk pf ps pb pr pt pe tn dk qk qf qs qb qr qt qe
    obtain ⟨rs, hd0, h1⟩ := bi_eq h
    have hd0 := unRoutes_eq hd0
    subst hd0
    obtain ⟨hp1, h2⟩ := chk_eq h1
    replace h := h2
    refine ⟨_, _, Spec.nl hA ?_, h⟩
    have hw := impl_ApplyDecision_weq sh pk pf ps pb pr pt pe tn dk qk qf qs qb qr qt qe rs hp1
    cases hb0 : (masterOk ⟨rs, sh, ⟨pk, pf, ps, pb, pr, pt, pe⟩, tn⟩) with
    | true =>
      simp only [br, hb0] at hw
      have hs : Spec Try.prog 11 _ [] (.tup [.agg [.sl 0, .d (.int .i64 ((applyDec ⟨rs, sh, ⟨pk, pf, ps, pb, pr, pt, pe⟩, tn⟩ ⟨dk, ⟨qk, qf, qs, qb, qr, qt, qe⟩⟩).1.shards)), .d (.int .i64 ((applyDec ⟨rs, sh, ⟨pk, pf, ps, pb, pr, pt, pe⟩, tn⟩ ⟨dk, ⟨qk, qf, qs, qb, qr, qt, qe⟩⟩).1.work.kind)), .d (.int .i64 ((applyDec ⟨rs, sh, ⟨pk, pf, ps, pb, pr, pt, pe⟩, tn⟩ ⟨dk, ⟨qk, qf, qs, qb, qr, qt, qe⟩⟩).1.work.first)), .d (.int .i64 ((applyDec ⟨rs, sh, ⟨pk, pf, ps, pb, pr, pt, pe⟩, tn⟩ ⟨dk, ⟨qk, qf, qs, qb, qr, qt, qe⟩⟩).1.work.second)), .d (.str ((applyDec ⟨rs, sh, ⟨pk, pf, ps, pb, pr, pt, pe⟩, tn⟩ ⟨dk, ⟨qk, qf, qs, qb, qr, qt, qe⟩⟩).1.work.key)), .d (.int .i64 ((applyDec ⟨rs, sh, ⟨pk, pf, ps, pb, pr, pt, pe⟩, tn⟩ ⟨dk, ⟨qk, qf, qs, qb, qr, qt, qe⟩⟩).1.work.src)), .d (.int .i64 ((applyDec ⟨rs, sh, ⟨pk, pf, ps, pb, pr, pt, pe⟩, tn⟩ ⟨dk, ⟨qk, qf, qs, qb, qr, qt, qe⟩⟩).1.work.dst)), .d (.int .i64 ((applyDec ⟨rs, sh, ⟨pk, pf, ps, pb, pr, pt, pe⟩, tn⟩ ⟨dk, ⟨qk, qf, qs, qb, qr, qt, qe⟩⟩).1.work.step)), .d (.int .i64 ((applyDec ⟨rs, sh, ⟨pk, pf, ps, pb, pr, pt, pe⟩, tn⟩ ⟨dk, ⟨qk, qf, qs, qb, qr, qt, qe⟩⟩).1.turn))], .d (.bool ((applyDec ⟨rs, sh, ⟨pk, pf, ps, pb, pr, pt, pe⟩, tn⟩ ⟨dk, ⟨qk, qf, qs, qb, qr, qt, qe⟩⟩).2))]) [.ar 3 0 ((applyDec ⟨rs, sh, ⟨pk, pf, ps, pb, pr, pt, pe⟩, tn⟩ ⟨dk, ⟨qk, qf, qs, qb, qr, qt, qe⟩⟩).1.routes.map Route.pv)] := spec_of_run tt_ok mixed (impl_ApplyDecision_C_Γ 0) Try.func11 (by kernel_rfl) (mem := []) (Nat.le_of_ble_eq_true (by kernel_rfl)) (impl_ApplyDecision_C_Λ 0) ((impl_ApplyDecision_run 0 (rs.map Route.pv) sh pk pf ps pb pr pt pe tn dk qk qf qs qb qr qt qe _).trans ((impl_ApplyDecision_ceq 0 sh pk pf ps pb pr pt pe tn dk qk qf qs qb qr qt qe rs _ hp1).trans (by simp only [br, hb0])))
      have hs := hs.wd 3 (Nat.le_of_ble_eq_true (by kernel_rfl))
      rw [Option.some.inj hw] at hs
      exact hs
    | false =>
      simp only [br, hb0] at hw
      have hs : Spec Try.prog 11 _ [] (.tup [.agg [.nil, .d (.int .i64 0), .d (.int .i64 0), .d (.int .i64 0), .d (.int .i64 0), .d (.str ⟨#[]⟩), .d (.int .i64 0), .d (.int .i64 0), .d (.int .i64 0), .d (.int .i64 0)], .d (.bool false)]) [] := spec_of_run tt_ok mixed (impl_ApplyDecision_C_Γ 0) Try.func11 (by kernel_rfl) (mem := []) (Nat.le_of_ble_eq_true (by kernel_rfl)) (impl_ApplyDecision_C_Λ 0) ((impl_ApplyDecision_run 0 (rs.map Route.pv) sh pk pf ps pb pr pt pe tn dk qk qf qs qb qr qt qe _).trans ((impl_ApplyDecision_ceq 0 sh pk pf ps pb pr pt pe tn dk qk qf qs qb qr qt qe rs _ hp1).trans (by simp only [br, hb0])))
      have hs := hs.wd 3 (Nat.le_of_ble_eq_true (by kernel_rfl))
      rw [Option.some.inj hw] at hs
      exact hs
  · cases h

def Γ_impl_ApplyDecision : FuncId → Option Smr := Γc 11 impl_ApplyDecision_sm Γ_impl_mergesRoutes
theorem Γ_impl_ApplyDecision_ok : ∀ f s, Γ_impl_ApplyDecision f = some s → SmrOK Try.prog f s := Γc_ok impl_ApplyDecision_ok Γ_impl_mergesRoutes_ok


theorem nums_uniq {rs : List Route} (h : numsOk rs = true) {i : Nat} (hi : i < rs.length) : rIndex rs (rAt rs i).number = some i := by
  refine idx_some hi (by rw [rAt_get hi]) fun j hj hji => ?_
  rw [numsOk_eq] at h
  simp only [List.all_eq_true, List.mem_range, numOk, Bool.and_eq_true] at h
  have := (h i hi).2 j hji
  rw [rAt_get hj] at this
  simpa using this
theorem routes_nums {rs : List Route} (h : routesOk rs = true) : numsOk rs = true := by
  simp only [routesOk, Bool.and_eq_true] at h; exact h.2
theorem merge_facts {rs : List Route} {x y : Int} (h : (mergeR rs x y).2 = true) : ∃ i, rIndex rs x = some i ∧ i + 1 < rs.length := by
  unfold mergeR at h
  split at h
  · split at h
    · cases h
    · rename_i i hi
      split at h
      · rename_i hc
        simp only [Bool.and_eq_true, decide_eq_true_eq] at hc
        exact ⟨i, hi, hc.1⟩
      · cases h
  · cases h
theorem second_eq {rs : List Route} (h : routesOk rs = true) {i : Nat} (hi : i + 1 < rs.length) (y : Int) : decide (rIndex rs y = some (i + 1)) = decide (rs[i + 1].number = y) := by
  apply decide_eq_decide.2
  constructor
  · intro e
    have := rIndex_num e
    rwa [rAt_get hi] at this
  · intro e
    have := nums_uniq (routes_nums h) hi
    rw [rAt_get hi, e] at this
    exact this

/- spec.ApplyDecision -/

def spec_ApplyDecision_c {R : Type} (N : Nat) (xs : List (List PV)) (sh : Int) (pk : Int) (pf : Int) (ps : Int) (pb : ByteArray) (pr : Int) (pt : Int) (pe : Int) (tn : Int) (dk : Int) (qk : Int) (qf : Int) (qs : Int) (qb : ByteArray) (qr : Int) (qt : Int) (qe : Int) (k : AV → List AB → Option R) : Option R :=
  bi (unRoutes xs) fun rs1 =>
  chk (decide (rs1.length ≤ 1048576))
  (br (!(masterOk ⟨rs1, sh, ⟨pk, pf, ps, pb, pr, pt, pe⟩, tn⟩))
   (k (.tup [.agg [.nil, .d (.int .i64 0), .d (.int .i64 0), .d (.int .i64 0), .d (.int .i64 0), .d (.str ⟨#[]⟩), .d (.int .i64 0), .d (.int .i64 0), .d (.int .i64 0), .d (.int .i64 0)], .d (.bool false)]) [])
   (chk (widthOk 3 xs && clim (0 + xs.length) 40)
    (chk (flatL xs)
     (chk (widthOk 3 xs && clim (0 + xs.length) 40)
      (chk (flatL xs)
       (br (dk == 1)
        (br (planOk ⟨qk, qf, qs, qb, qr, qt, qe⟩)
         (br (qe == 0)
          (br (workOk ⟨qk, qf, qs, qb, qr, qt, qe⟩ sh)
           (br (pk == 0)
            (br (!(decide (tn < 999)))
             (k (.tup [.agg [.sl 0, .d (.int .i64 sh), .d (.int .i64 pk), .d (.int .i64 pf), .d (.int .i64 ps), .d (.str pb), .d (.int .i64 pr), .d (.int .i64 pt), .d (.int .i64 pe), .d (.int .i64 tn)], .d (.bool false)]) [.ar 3 0 xs])
             (bi (unRoutes xs) fun rs2 =>
              chk (decide (rs2.length ≤ 1048576))
              (br (!(masterOk ⟨rs2, sh, ⟨qk, qf, qs, qb, qr, qt, qe⟩, (IntKind.i64.wrap (tn + 1))⟩))
               (k (.tup [.agg [.sl 0, .d (.int .i64 sh), .d (.int .i64 pk), .d (.int .i64 pf), .d (.int .i64 ps), .d (.str pb), .d (.int .i64 pr), .d (.int .i64 pt), .d (.int .i64 pe), .d (.int .i64 tn)], .d (.bool false)]) [.ar 3 0 xs])
               (k (.tup [.agg [.sl 0, .d (.int .i64 sh), .d (.int .i64 qk), .d (.int .i64 qf), .d (.int .i64 qs), .d (.str qb), .d (.int .i64 qr), .d (.int .i64 qt), .d (.int .i64 qe), .d (.int .i64 (IntKind.i64.wrap (tn + 1)))], .d (.bool true)]) [.ar 3 0 xs]))))
            (k (.tup [.agg [.sl 0, .d (.int .i64 sh), .d (.int .i64 pk), .d (.int .i64 pf), .d (.int .i64 ps), .d (.str pb), .d (.int .i64 pr), .d (.int .i64 pt), .d (.int .i64 pe), .d (.int .i64 tn)], .d (.bool false)]) [.ar 3 0 xs]))
           (k (.tup [.agg [.sl 0, .d (.int .i64 sh), .d (.int .i64 pk), .d (.int .i64 pf), .d (.int .i64 ps), .d (.str pb), .d (.int .i64 pr), .d (.int .i64 pt), .d (.int .i64 pe), .d (.int .i64 tn)], .d (.bool false)]) [.ar 3 0 xs]))
          (k (.tup [.agg [.sl 0, .d (.int .i64 sh), .d (.int .i64 pk), .d (.int .i64 pf), .d (.int .i64 ps), .d (.str pb), .d (.int .i64 pr), .d (.int .i64 pt), .d (.int .i64 pe), .d (.int .i64 tn)], .d (.bool false)]) [.ar 3 0 xs]))
         (k (.tup [.agg [.sl 0, .d (.int .i64 sh), .d (.int .i64 pk), .d (.int .i64 pf), .d (.int .i64 ps), .d (.str pb), .d (.int .i64 pr), .d (.int .i64 pt), .d (.int .i64 pe), .d (.int .i64 tn)], .d (.bool false)]) [.ar 3 0 xs]))
        (br (dk == 2)
         (br (pk == 1)
          (bi (unRoutes xs) fun rs3 =>
           chk (decide (rs3.length ≤ 1048576))
           (br ((qk == 0) && ((qf == 0) && ((qs == 0) && (decide (qb = ⟨#[]⟩) && ((qr == 0) && ((qt == 0) && ((qe == 0) && true)))))))
            (br (!((splitR rs3 pf pb sh (IntKind.i64.wrap (sh + 1))).2))
             (k (.tup [.agg [.sl 0, .d (.int .i64 sh), .d (.int .i64 pk), .d (.int .i64 pf), .d (.int .i64 ps), .d (.str pb), .d (.int .i64 pr), .d (.int .i64 pt), .d (.int .i64 pe), .d (.int .i64 tn)], .d (.bool false)]) [.ar 3 0 xs])
             (bi (unRoutes ((splitR rs3 pf pb sh (IntKind.i64.wrap (sh + 1))).1.map Route.pv)) fun rs4 =>
              chk (decide (rs4.length ≤ 1048576))
              (br (!(masterOk ⟨rs4, (IntKind.i64.wrap (sh + 2)), ⟨(0 : Int), (0 : Int), (0 : Int), ⟨#[]⟩, (0 : Int), (0 : Int), (0 : Int)⟩, tn⟩))
               (k (.tup [.agg [.sl 0, .d (.int .i64 sh), .d (.int .i64 pk), .d (.int .i64 pf), .d (.int .i64 ps), .d (.str pb), .d (.int .i64 pr), .d (.int .i64 pt), .d (.int .i64 pe), .d (.int .i64 tn)], .d (.bool false)]) [.ar 3 0 xs])
               (k (.tup [.agg [.sl 0, .d (.int .i64 (IntKind.i64.wrap (sh + 2))), .d (.int .i64 0), .d (.int .i64 0), .d (.int .i64 0), .d (.str ⟨#[]⟩), .d (.int .i64 0), .d (.int .i64 0), .d (.int .i64 0), .d (.int .i64 tn)], .d (.bool true)]) [.ar 3 0 ((splitR rs3 pf pb sh (IntKind.i64.wrap (sh + 1))).1.map Route.pv)]))))
            (k (.tup [.agg [.sl 0, .d (.int .i64 sh), .d (.int .i64 pk), .d (.int .i64 pf), .d (.int .i64 ps), .d (.str pb), .d (.int .i64 pr), .d (.int .i64 pt), .d (.int .i64 pe), .d (.int .i64 tn)], .d (.bool false)]) [.ar 3 0 xs])))
          (br (dk == 3)
           (br (pk == 2)
            (bi (unRoutes xs) fun rs5 =>
             chk (decide (rs5.length ≤ 1048576))
             (bi (unRoutes xs) fun rs6 =>
              chk (decide (rs6.length ≤ 1048576))
              (br ((qk == 0) && ((qf == 0) && ((qs == 0) && (decide (qb = ⟨#[]⟩) && ((qr == 0) && ((qt == 0) && ((qe == 0) && true)))))))
               (br ((mergeR rs6 pf sh).2)
                (getC xs (IntKind.i64.wrap ((idx (rIndex rs5 pf)) + 1)) fun x7 =>
                 dInt .i64 x7 fun n9 r8 => dStr r8 fun s11 r10 => dStr r10 fun s13 r12 =>
                 chk (Nat.beq x7.length 3)
                 (br (!(n9 == ps))
                  (k (.tup [.agg [.sl 0, .d (.int .i64 sh), .d (.int .i64 pk), .d (.int .i64 pf), .d (.int .i64 ps), .d (.str pb), .d (.int .i64 pr), .d (.int .i64 pt), .d (.int .i64 pe), .d (.int .i64 tn)], .d (.bool false)]) [.ar 3 0 xs])
                  (bi (unRoutes ((mergeR rs6 pf sh).1.map Route.pv)) fun rs14 =>
                   chk (decide (rs14.length ≤ 1048576))
                   (br (!(masterOk ⟨rs14, (IntKind.i64.wrap (sh + 1)), ⟨(0 : Int), (0 : Int), (0 : Int), ⟨#[]⟩, (0 : Int), (0 : Int), (0 : Int)⟩, tn⟩))
                    (k (.tup [.agg [.sl 0, .d (.int .i64 sh), .d (.int .i64 pk), .d (.int .i64 pf), .d (.int .i64 ps), .d (.str pb), .d (.int .i64 pr), .d (.int .i64 pt), .d (.int .i64 pe), .d (.int .i64 tn)], .d (.bool false)]) [.ar 3 0 xs])
                    (k (.tup [.agg [.sl 0, .d (.int .i64 (IntKind.i64.wrap (sh + 1))), .d (.int .i64 0), .d (.int .i64 0), .d (.int .i64 0), .d (.str ⟨#[]⟩), .d (.int .i64 0), .d (.int .i64 0), .d (.int .i64 0), .d (.int .i64 tn)], .d (.bool true)]) [.ar 3 0 ((mergeR rs6 pf sh).1.map Route.pv)])))))
                (k (.tup [.agg [.sl 0, .d (.int .i64 sh), .d (.int .i64 pk), .d (.int .i64 pf), .d (.int .i64 ps), .d (.str pb), .d (.int .i64 pr), .d (.int .i64 pt), .d (.int .i64 pe), .d (.int .i64 tn)], .d (.bool false)]) [.ar 3 0 xs]))
               (k (.tup [.agg [.sl 0, .d (.int .i64 sh), .d (.int .i64 pk), .d (.int .i64 pf), .d (.int .i64 ps), .d (.str pb), .d (.int .i64 pr), .d (.int .i64 pt), .d (.int .i64 pe), .d (.int .i64 tn)], .d (.bool false)]) [.ar 3 0 xs]))))
            (br (dk == 4)
             (br (pk == 3)
              (br (pe == 0)
               (br (!((qk == 0) && ((qf == 0) && ((qs == 0) && (decide (qb = ⟨#[]⟩) && ((qr == 0) && ((qt == 0) && ((qe == 0) && true))))))))
                (k (.tup [.agg [.sl 0, .d (.int .i64 sh), .d (.int .i64 pk), .d (.int .i64 pf), .d (.int .i64 ps), .d (.str pb), .d (.int .i64 pr), .d (.int .i64 pt), .d (.int .i64 pe), .d (.int .i64 tn)], .d (.bool false)]) [.ar 3 0 xs])
                (bi (unRoutes xs) fun rs15 =>
                 chk (decide (rs15.length ≤ 1048576))
                 (br (!(masterOk ⟨rs15, sh, ⟨pk, pf, ps, pb, pr, pt, (1 : Int)⟩, tn⟩))
                  (k (.tup [.agg [.sl 0, .d (.int .i64 sh), .d (.int .i64 pk), .d (.int .i64 pf), .d (.int .i64 ps), .d (.str pb), .d (.int .i64 pr), .d (.int .i64 pt), .d (.int .i64 pe), .d (.int .i64 tn)], .d (.bool false)]) [.ar 3 0 xs])
                  (k (.tup [.agg [.sl 0, .d (.int .i64 sh), .d (.int .i64 pk), .d (.int .i64 pf), .d (.int .i64 ps), .d (.str pb), .d (.int .i64 pr), .d (.int .i64 pt), .d (.int .i64 1), .d (.int .i64 tn)], .d (.bool true)]) [.ar 3 0 xs]))))
               (br (dk == 5)
                (br (pk == 3)
                 (br (!((qk == 0) && ((qf == 0) && ((qs == 0) && (decide (qb = ⟨#[]⟩) && ((qr == 0) && ((qt == 0) && ((qe == 0) && true))))))))
                  (k (.tup [.agg [.sl 0, .d (.int .i64 sh), .d (.int .i64 pk), .d (.int .i64 pf), .d (.int .i64 ps), .d (.str pb), .d (.int .i64 pr), .d (.int .i64 pt), .d (.int .i64 pe), .d (.int .i64 tn)], .d (.bool false)]) [.ar 3 0 xs])
                  (bi (unRoutes xs) fun rs16 =>
                   chk (decide (rs16.length ≤ 1048576))
                   (br (!(masterOk ⟨rs16, sh, ⟨(0 : Int), (0 : Int), (0 : Int), ⟨#[]⟩, (0 : Int), (0 : Int), (0 : Int)⟩, tn⟩))
                    (k (.tup [.agg [.sl 0, .d (.int .i64 sh), .d (.int .i64 pk), .d (.int .i64 pf), .d (.int .i64 ps), .d (.str pb), .d (.int .i64 pr), .d (.int .i64 pt), .d (.int .i64 pe), .d (.int .i64 tn)], .d (.bool false)]) [.ar 3 0 xs])
                    (k (.tup [.agg [.sl 0, .d (.int .i64 sh), .d (.int .i64 0), .d (.int .i64 0), .d (.int .i64 0), .d (.str ⟨#[]⟩), .d (.int .i64 0), .d (.int .i64 0), .d (.int .i64 0), .d (.int .i64 tn)], .d (.bool true)]) [.ar 3 0 xs]))))
                 (k (.tup [.agg [.sl 0, .d (.int .i64 sh), .d (.int .i64 pk), .d (.int .i64 pf), .d (.int .i64 ps), .d (.str pb), .d (.int .i64 pr), .d (.int .i64 pt), .d (.int .i64 pe), .d (.int .i64 tn)], .d (.bool false)]) [.ar 3 0 xs]))
                (k (.tup [.agg [.sl 0, .d (.int .i64 sh), .d (.int .i64 pk), .d (.int .i64 pf), .d (.int .i64 ps), .d (.str pb), .d (.int .i64 pr), .d (.int .i64 pt), .d (.int .i64 pe), .d (.int .i64 tn)], .d (.bool false)]) [.ar 3 0 xs])))
              (br (dk == 5)
               (br (pk == 3)
                (br (!((qk == 0) && ((qf == 0) && ((qs == 0) && (decide (qb = ⟨#[]⟩) && ((qr == 0) && ((qt == 0) && ((qe == 0) && true))))))))
                 (k (.tup [.agg [.sl 0, .d (.int .i64 sh), .d (.int .i64 pk), .d (.int .i64 pf), .d (.int .i64 ps), .d (.str pb), .d (.int .i64 pr), .d (.int .i64 pt), .d (.int .i64 pe), .d (.int .i64 tn)], .d (.bool false)]) [.ar 3 0 xs])
                 (bi (unRoutes xs) fun rs17 =>
                  chk (decide (rs17.length ≤ 1048576))
                  (br (!(masterOk ⟨rs17, sh, ⟨(0 : Int), (0 : Int), (0 : Int), ⟨#[]⟩, (0 : Int), (0 : Int), (0 : Int)⟩, tn⟩))
                   (k (.tup [.agg [.sl 0, .d (.int .i64 sh), .d (.int .i64 pk), .d (.int .i64 pf), .d (.int .i64 ps), .d (.str pb), .d (.int .i64 pr), .d (.int .i64 pt), .d (.int .i64 pe), .d (.int .i64 tn)], .d (.bool false)]) [.ar 3 0 xs])
                   (k (.tup [.agg [.sl 0, .d (.int .i64 sh), .d (.int .i64 0), .d (.int .i64 0), .d (.int .i64 0), .d (.str ⟨#[]⟩), .d (.int .i64 0), .d (.int .i64 0), .d (.int .i64 0), .d (.int .i64 tn)], .d (.bool true)]) [.ar 3 0 xs]))))
                (k (.tup [.agg [.sl 0, .d (.int .i64 sh), .d (.int .i64 pk), .d (.int .i64 pf), .d (.int .i64 ps), .d (.str pb), .d (.int .i64 pr), .d (.int .i64 pt), .d (.int .i64 pe), .d (.int .i64 tn)], .d (.bool false)]) [.ar 3 0 xs]))
               (k (.tup [.agg [.sl 0, .d (.int .i64 sh), .d (.int .i64 pk), .d (.int .i64 pf), .d (.int .i64 ps), .d (.str pb), .d (.int .i64 pr), .d (.int .i64 pt), .d (.int .i64 pe), .d (.int .i64 tn)], .d (.bool false)]) [.ar 3 0 xs])))
             (br (dk == 5)
              (br (pk == 3)
               (br (!((qk == 0) && ((qf == 0) && ((qs == 0) && (decide (qb = ⟨#[]⟩) && ((qr == 0) && ((qt == 0) && ((qe == 0) && true))))))))
                (k (.tup [.agg [.sl 0, .d (.int .i64 sh), .d (.int .i64 pk), .d (.int .i64 pf), .d (.int .i64 ps), .d (.str pb), .d (.int .i64 pr), .d (.int .i64 pt), .d (.int .i64 pe), .d (.int .i64 tn)], .d (.bool false)]) [.ar 3 0 xs])
                (bi (unRoutes xs) fun rs18 =>
                 chk (decide (rs18.length ≤ 1048576))
                 (br (!(masterOk ⟨rs18, sh, ⟨(0 : Int), (0 : Int), (0 : Int), ⟨#[]⟩, (0 : Int), (0 : Int), (0 : Int)⟩, tn⟩))
                  (k (.tup [.agg [.sl 0, .d (.int .i64 sh), .d (.int .i64 pk), .d (.int .i64 pf), .d (.int .i64 ps), .d (.str pb), .d (.int .i64 pr), .d (.int .i64 pt), .d (.int .i64 pe), .d (.int .i64 tn)], .d (.bool false)]) [.ar 3 0 xs])
                  (k (.tup [.agg [.sl 0, .d (.int .i64 sh), .d (.int .i64 0), .d (.int .i64 0), .d (.int .i64 0), .d (.str ⟨#[]⟩), .d (.int .i64 0), .d (.int .i64 0), .d (.int .i64 0), .d (.int .i64 tn)], .d (.bool true)]) [.ar 3 0 xs]))))
               (k (.tup [.agg [.sl 0, .d (.int .i64 sh), .d (.int .i64 pk), .d (.int .i64 pf), .d (.int .i64 ps), .d (.str pb), .d (.int .i64 pr), .d (.int .i64 pt), .d (.int .i64 pe), .d (.int .i64 tn)], .d (.bool false)]) [.ar 3 0 xs]))
              (k (.tup [.agg [.sl 0, .d (.int .i64 sh), .d (.int .i64 pk), .d (.int .i64 pf), .d (.int .i64 ps), .d (.str pb), .d (.int .i64 pr), .d (.int .i64 pt), .d (.int .i64 pe), .d (.int .i64 tn)], .d (.bool false)]) [.ar 3 0 xs]))))
           (br (dk == 4)
            (br (pk == 3)
             (br (pe == 0)
              (br (!((qk == 0) && ((qf == 0) && ((qs == 0) && (decide (qb = ⟨#[]⟩) && ((qr == 0) && ((qt == 0) && ((qe == 0) && true))))))))
               (k (.tup [.agg [.sl 0, .d (.int .i64 sh), .d (.int .i64 pk), .d (.int .i64 pf), .d (.int .i64 ps), .d (.str pb), .d (.int .i64 pr), .d (.int .i64 pt), .d (.int .i64 pe), .d (.int .i64 tn)], .d (.bool false)]) [.ar 3 0 xs])
               (bi (unRoutes xs) fun rs19 =>
                chk (decide (rs19.length ≤ 1048576))
                (br (!(masterOk ⟨rs19, sh, ⟨pk, pf, ps, pb, pr, pt, (1 : Int)⟩, tn⟩))
                 (k (.tup [.agg [.sl 0, .d (.int .i64 sh), .d (.int .i64 pk), .d (.int .i64 pf), .d (.int .i64 ps), .d (.str pb), .d (.int .i64 pr), .d (.int .i64 pt), .d (.int .i64 pe), .d (.int .i64 tn)], .d (.bool false)]) [.ar 3 0 xs])
                 (k (.tup [.agg [.sl 0, .d (.int .i64 sh), .d (.int .i64 pk), .d (.int .i64 pf), .d (.int .i64 ps), .d (.str pb), .d (.int .i64 pr), .d (.int .i64 pt), .d (.int .i64 1), .d (.int .i64 tn)], .d (.bool true)]) [.ar 3 0 xs]))))
              (br (dk == 5)
               (br (pk == 3)
                (br (!((qk == 0) && ((qf == 0) && ((qs == 0) && (decide (qb = ⟨#[]⟩) && ((qr == 0) && ((qt == 0) && ((qe == 0) && true))))))))
                 (k (.tup [.agg [.sl 0, .d (.int .i64 sh), .d (.int .i64 pk), .d (.int .i64 pf), .d (.int .i64 ps), .d (.str pb), .d (.int .i64 pr), .d (.int .i64 pt), .d (.int .i64 pe), .d (.int .i64 tn)], .d (.bool false)]) [.ar 3 0 xs])
                 (bi (unRoutes xs) fun rs20 =>
                  chk (decide (rs20.length ≤ 1048576))
                  (br (!(masterOk ⟨rs20, sh, ⟨(0 : Int), (0 : Int), (0 : Int), ⟨#[]⟩, (0 : Int), (0 : Int), (0 : Int)⟩, tn⟩))
                   (k (.tup [.agg [.sl 0, .d (.int .i64 sh), .d (.int .i64 pk), .d (.int .i64 pf), .d (.int .i64 ps), .d (.str pb), .d (.int .i64 pr), .d (.int .i64 pt), .d (.int .i64 pe), .d (.int .i64 tn)], .d (.bool false)]) [.ar 3 0 xs])
                   (k (.tup [.agg [.sl 0, .d (.int .i64 sh), .d (.int .i64 0), .d (.int .i64 0), .d (.int .i64 0), .d (.str ⟨#[]⟩), .d (.int .i64 0), .d (.int .i64 0), .d (.int .i64 0), .d (.int .i64 tn)], .d (.bool true)]) [.ar 3 0 xs]))))
                (k (.tup [.agg [.sl 0, .d (.int .i64 sh), .d (.int .i64 pk), .d (.int .i64 pf), .d (.int .i64 ps), .d (.str pb), .d (.int .i64 pr), .d (.int .i64 pt), .d (.int .i64 pe), .d (.int .i64 tn)], .d (.bool false)]) [.ar 3 0 xs]))
               (k (.tup [.agg [.sl 0, .d (.int .i64 sh), .d (.int .i64 pk), .d (.int .i64 pf), .d (.int .i64 ps), .d (.str pb), .d (.int .i64 pr), .d (.int .i64 pt), .d (.int .i64 pe), .d (.int .i64 tn)], .d (.bool false)]) [.ar 3 0 xs])))
             (br (dk == 5)
              (br (pk == 3)
               (br (!((qk == 0) && ((qf == 0) && ((qs == 0) && (decide (qb = ⟨#[]⟩) && ((qr == 0) && ((qt == 0) && ((qe == 0) && true))))))))
                (k (.tup [.agg [.sl 0, .d (.int .i64 sh), .d (.int .i64 pk), .d (.int .i64 pf), .d (.int .i64 ps), .d (.str pb), .d (.int .i64 pr), .d (.int .i64 pt), .d (.int .i64 pe), .d (.int .i64 tn)], .d (.bool false)]) [.ar 3 0 xs])
                (bi (unRoutes xs) fun rs21 =>
                 chk (decide (rs21.length ≤ 1048576))
                 (br (!(masterOk ⟨rs21, sh, ⟨(0 : Int), (0 : Int), (0 : Int), ⟨#[]⟩, (0 : Int), (0 : Int), (0 : Int)⟩, tn⟩))
                  (k (.tup [.agg [.sl 0, .d (.int .i64 sh), .d (.int .i64 pk), .d (.int .i64 pf), .d (.int .i64 ps), .d (.str pb), .d (.int .i64 pr), .d (.int .i64 pt), .d (.int .i64 pe), .d (.int .i64 tn)], .d (.bool false)]) [.ar 3 0 xs])
                  (k (.tup [.agg [.sl 0, .d (.int .i64 sh), .d (.int .i64 0), .d (.int .i64 0), .d (.int .i64 0), .d (.str ⟨#[]⟩), .d (.int .i64 0), .d (.int .i64 0), .d (.int .i64 0), .d (.int .i64 tn)], .d (.bool true)]) [.ar 3 0 xs]))))
               (k (.tup [.agg [.sl 0, .d (.int .i64 sh), .d (.int .i64 pk), .d (.int .i64 pf), .d (.int .i64 ps), .d (.str pb), .d (.int .i64 pr), .d (.int .i64 pt), .d (.int .i64 pe), .d (.int .i64 tn)], .d (.bool false)]) [.ar 3 0 xs]))
              (k (.tup [.agg [.sl 0, .d (.int .i64 sh), .d (.int .i64 pk), .d (.int .i64 pf), .d (.int .i64 ps), .d (.str pb), .d (.int .i64 pr), .d (.int .i64 pt), .d (.int .i64 pe), .d (.int .i64 tn)], .d (.bool false)]) [.ar 3 0 xs])))
            (br (dk == 5)
             (br (pk == 3)
              (br (!((qk == 0) && ((qf == 0) && ((qs == 0) && (decide (qb = ⟨#[]⟩) && ((qr == 0) && ((qt == 0) && ((qe == 0) && true))))))))
               (k (.tup [.agg [.sl 0, .d (.int .i64 sh), .d (.int .i64 pk), .d (.int .i64 pf), .d (.int .i64 ps), .d (.str pb), .d (.int .i64 pr), .d (.int .i64 pt), .d (.int .i64 pe), .d (.int .i64 tn)], .d (.bool false)]) [.ar 3 0 xs])
               (bi (unRoutes xs) fun rs22 =>
                chk (decide (rs22.length ≤ 1048576))
                (br (!(masterOk ⟨rs22, sh, ⟨(0 : Int), (0 : Int), (0 : Int), ⟨#[]⟩, (0 : Int), (0 : Int), (0 : Int)⟩, tn⟩))
                 (k (.tup [.agg [.sl 0, .d (.int .i64 sh), .d (.int .i64 pk), .d (.int .i64 pf), .d (.int .i64 ps), .d (.str pb), .d (.int .i64 pr), .d (.int .i64 pt), .d (.int .i64 pe), .d (.int .i64 tn)], .d (.bool false)]) [.ar 3 0 xs])
                 (k (.tup [.agg [.sl 0, .d (.int .i64 sh), .d (.int .i64 0), .d (.int .i64 0), .d (.int .i64 0), .d (.str ⟨#[]⟩), .d (.int .i64 0), .d (.int .i64 0), .d (.int .i64 0), .d (.int .i64 tn)], .d (.bool true)]) [.ar 3 0 xs]))))
              (k (.tup [.agg [.sl 0, .d (.int .i64 sh), .d (.int .i64 pk), .d (.int .i64 pf), .d (.int .i64 ps), .d (.str pb), .d (.int .i64 pr), .d (.int .i64 pt), .d (.int .i64 pe), .d (.int .i64 tn)], .d (.bool false)]) [.ar 3 0 xs]))
             (k (.tup [.agg [.sl 0, .d (.int .i64 sh), .d (.int .i64 pk), .d (.int .i64 pf), .d (.int .i64 ps), .d (.str pb), .d (.int .i64 pr), .d (.int .i64 pt), .d (.int .i64 pe), .d (.int .i64 tn)], .d (.bool false)]) [.ar 3 0 xs])))))
         (br (dk == 3)
          (br (pk == 2)
           (bi (unRoutes xs) fun rs23 =>
            chk (decide (rs23.length ≤ 1048576))
            (bi (unRoutes xs) fun rs24 =>
             chk (decide (rs24.length ≤ 1048576))
             (br ((qk == 0) && ((qf == 0) && ((qs == 0) && (decide (qb = ⟨#[]⟩) && ((qr == 0) && ((qt == 0) && ((qe == 0) && true)))))))
              (br ((mergeR rs24 pf sh).2)
               (getC xs (IntKind.i64.wrap ((idx (rIndex rs23 pf)) + 1)) fun x25 =>
                dInt .i64 x25 fun n27 r26 => dStr r26 fun s29 r28 => dStr r28 fun s31 r30 =>
                chk (Nat.beq x25.length 3)
                (br (!(n27 == ps))
                 (k (.tup [.agg [.sl 0, .d (.int .i64 sh), .d (.int .i64 pk), .d (.int .i64 pf), .d (.int .i64 ps), .d (.str pb), .d (.int .i64 pr), .d (.int .i64 pt), .d (.int .i64 pe), .d (.int .i64 tn)], .d (.bool false)]) [.ar 3 0 xs])
                 (bi (unRoutes ((mergeR rs24 pf sh).1.map Route.pv)) fun rs32 =>
                  chk (decide (rs32.length ≤ 1048576))
                  (br (!(masterOk ⟨rs32, (IntKind.i64.wrap (sh + 1)), ⟨(0 : Int), (0 : Int), (0 : Int), ⟨#[]⟩, (0 : Int), (0 : Int), (0 : Int)⟩, tn⟩))
                   (k (.tup [.agg [.sl 0, .d (.int .i64 sh), .d (.int .i64 pk), .d (.int .i64 pf), .d (.int .i64 ps), .d (.str pb), .d (.int .i64 pr), .d (.int .i64 pt), .d (.int .i64 pe), .d (.int .i64 tn)], .d (.bool false)]) [.ar 3 0 xs])
                   (k (.tup [.agg [.sl 0, .d (.int .i64 (IntKind.i64.wrap (sh + 1))), .d (.int .i64 0), .d (.int .i64 0), .d (.int .i64 0), .d (.str ⟨#[]⟩), .d (.int .i64 0), .d (.int .i64 0), .d (.int .i64 0), .d (.int .i64 tn)], .d (.bool true)]) [.ar 3 0 ((mergeR rs24 pf sh).1.map Route.pv)])))))
               (k (.tup [.agg [.sl 0, .d (.int .i64 sh), .d (.int .i64 pk), .d (.int .i64 pf), .d (.int .i64 ps), .d (.str pb), .d (.int .i64 pr), .d (.int .i64 pt), .d (.int .i64 pe), .d (.int .i64 tn)], .d (.bool false)]) [.ar 3 0 xs]))
              (k (.tup [.agg [.sl 0, .d (.int .i64 sh), .d (.int .i64 pk), .d (.int .i64 pf), .d (.int .i64 ps), .d (.str pb), .d (.int .i64 pr), .d (.int .i64 pt), .d (.int .i64 pe), .d (.int .i64 tn)], .d (.bool false)]) [.ar 3 0 xs]))))
           (br (dk == 4)
            (br (pk == 3)
             (br (pe == 0)
              (br (!((qk == 0) && ((qf == 0) && ((qs == 0) && (decide (qb = ⟨#[]⟩) && ((qr == 0) && ((qt == 0) && ((qe == 0) && true))))))))
               (k (.tup [.agg [.sl 0, .d (.int .i64 sh), .d (.int .i64 pk), .d (.int .i64 pf), .d (.int .i64 ps), .d (.str pb), .d (.int .i64 pr), .d (.int .i64 pt), .d (.int .i64 pe), .d (.int .i64 tn)], .d (.bool false)]) [.ar 3 0 xs])
               (bi (unRoutes xs) fun rs33 =>
                chk (decide (rs33.length ≤ 1048576))
                (br (!(masterOk ⟨rs33, sh, ⟨pk, pf, ps, pb, pr, pt, (1 : Int)⟩, tn⟩))
                 (k (.tup [.agg [.sl 0, .d (.int .i64 sh), .d (.int .i64 pk), .d (.int .i64 pf), .d (.int .i64 ps), .d (.str pb), .d (.int .i64 pr), .d (.int .i64 pt), .d (.int .i64 pe), .d (.int .i64 tn)], .d (.bool false)]) [.ar 3 0 xs])
                 (k (.tup [.agg [.sl 0, .d (.int .i64 sh), .d (.int .i64 pk), .d (.int .i64 pf), .d (.int .i64 ps), .d (.str pb), .d (.int .i64 pr), .d (.int .i64 pt), .d (.int .i64 1), .d (.int .i64 tn)], .d (.bool true)]) [.ar 3 0 xs]))))
              (br (dk == 5)
               (br (pk == 3)
                (br (!((qk == 0) && ((qf == 0) && ((qs == 0) && (decide (qb = ⟨#[]⟩) && ((qr == 0) && ((qt == 0) && ((qe == 0) && true))))))))
                 (k (.tup [.agg [.sl 0, .d (.int .i64 sh), .d (.int .i64 pk), .d (.int .i64 pf), .d (.int .i64 ps), .d (.str pb), .d (.int .i64 pr), .d (.int .i64 pt), .d (.int .i64 pe), .d (.int .i64 tn)], .d (.bool false)]) [.ar 3 0 xs])
                 (bi (unRoutes xs) fun rs34 =>
                  chk (decide (rs34.length ≤ 1048576))
                  (br (!(masterOk ⟨rs34, sh, ⟨(0 : Int), (0 : Int), (0 : Int), ⟨#[]⟩, (0 : Int), (0 : Int), (0 : Int)⟩, tn⟩))
                   (k (.tup [.agg [.sl 0, .d (.int .i64 sh), .d (.int .i64 pk), .d (.int .i64 pf), .d (.int .i64 ps), .d (.str pb), .d (.int .i64 pr), .d (.int .i64 pt), .d (.int .i64 pe), .d (.int .i64 tn)], .d (.bool false)]) [.ar 3 0 xs])
                   (k (.tup [.agg [.sl 0, .d (.int .i64 sh), .d (.int .i64 0), .d (.int .i64 0), .d (.int .i64 0), .d (.str ⟨#[]⟩), .d (.int .i64 0), .d (.int .i64 0), .d (.int .i64 0), .d (.int .i64 tn)], .d (.bool true)]) [.ar 3 0 xs]))))
                (k (.tup [.agg [.sl 0, .d (.int .i64 sh), .d (.int .i64 pk), .d (.int .i64 pf), .d (.int .i64 ps), .d (.str pb), .d (.int .i64 pr), .d (.int .i64 pt), .d (.int .i64 pe), .d (.int .i64 tn)], .d (.bool false)]) [.ar 3 0 xs]))
               (k (.tup [.agg [.sl 0, .d (.int .i64 sh), .d (.int .i64 pk), .d (.int .i64 pf), .d (.int .i64 ps), .d (.str pb), .d (.int .i64 pr), .d (.int .i64 pt), .d (.int .i64 pe), .d (.int .i64 tn)], .d (.bool false)]) [.ar 3 0 xs])))
             (br (dk == 5)
              (br (pk == 3)
               (br (!((qk == 0) && ((qf == 0) && ((qs == 0) && (decide (qb = ⟨#[]⟩) && ((qr == 0) && ((qt == 0) && ((qe == 0) && true))))))))
                (k (.tup [.agg [.sl 0, .d (.int .i64 sh), .d (.int .i64 pk), .d (.int .i64 pf), .d (.int .i64 ps), .d (.str pb), .d (.int .i64 pr), .d (.int .i64 pt), .d (.int .i64 pe), .d (.int .i64 tn)], .d (.bool false)]) [.ar 3 0 xs])
                (bi (unRoutes xs) fun rs35 =>
                 chk (decide (rs35.length ≤ 1048576))
                 (br (!(masterOk ⟨rs35, sh, ⟨(0 : Int), (0 : Int), (0 : Int), ⟨#[]⟩, (0 : Int), (0 : Int), (0 : Int)⟩, tn⟩))
                  (k (.tup [.agg [.sl 0, .d (.int .i64 sh), .d (.int .i64 pk), .d (.int .i64 pf), .d (.int .i64 ps), .d (.str pb), .d (.int .i64 pr), .d (.int .i64 pt), .d (.int .i64 pe), .d (.int .i64 tn)], .d (.bool false)]) [.ar 3 0 xs])
                  (k (.tup [.agg [.sl 0, .d (.int .i64 sh), .d (.int .i64 0), .d (.int .i64 0), .d (.int .i64 0), .d (.str ⟨#[]⟩), .d (.int .i64 0), .d (.int .i64 0), .d (.int .i64 0), .d (.int .i64 tn)], .d (.bool true)]) [.ar 3 0 xs]))))
               (k (.tup [.agg [.sl 0, .d (.int .i64 sh), .d (.int .i64 pk), .d (.int .i64 pf), .d (.int .i64 ps), .d (.str pb), .d (.int .i64 pr), .d (.int .i64 pt), .d (.int .i64 pe), .d (.int .i64 tn)], .d (.bool false)]) [.ar 3 0 xs]))
              (k (.tup [.agg [.sl 0, .d (.int .i64 sh), .d (.int .i64 pk), .d (.int .i64 pf), .d (.int .i64 ps), .d (.str pb), .d (.int .i64 pr), .d (.int .i64 pt), .d (.int .i64 pe), .d (.int .i64 tn)], .d (.bool false)]) [.ar 3 0 xs])))
            (br (dk == 5)
             (br (pk == 3)
              (br (!((qk == 0) && ((qf == 0) && ((qs == 0) && (decide (qb = ⟨#[]⟩) && ((qr == 0) && ((qt == 0) && ((qe == 0) && true))))))))
               (k (.tup [.agg [.sl 0, .d (.int .i64 sh), .d (.int .i64 pk), .d (.int .i64 pf), .d (.int .i64 ps), .d (.str pb), .d (.int .i64 pr), .d (.int .i64 pt), .d (.int .i64 pe), .d (.int .i64 tn)], .d (.bool false)]) [.ar 3 0 xs])
               (bi (unRoutes xs) fun rs36 =>
                chk (decide (rs36.length ≤ 1048576))
                (br (!(masterOk ⟨rs36, sh, ⟨(0 : Int), (0 : Int), (0 : Int), ⟨#[]⟩, (0 : Int), (0 : Int), (0 : Int)⟩, tn⟩))
                 (k (.tup [.agg [.sl 0, .d (.int .i64 sh), .d (.int .i64 pk), .d (.int .i64 pf), .d (.int .i64 ps), .d (.str pb), .d (.int .i64 pr), .d (.int .i64 pt), .d (.int .i64 pe), .d (.int .i64 tn)], .d (.bool false)]) [.ar 3 0 xs])
                 (k (.tup [.agg [.sl 0, .d (.int .i64 sh), .d (.int .i64 0), .d (.int .i64 0), .d (.int .i64 0), .d (.str ⟨#[]⟩), .d (.int .i64 0), .d (.int .i64 0), .d (.int .i64 0), .d (.int .i64 tn)], .d (.bool true)]) [.ar 3 0 xs]))))
              (k (.tup [.agg [.sl 0, .d (.int .i64 sh), .d (.int .i64 pk), .d (.int .i64 pf), .d (.int .i64 ps), .d (.str pb), .d (.int .i64 pr), .d (.int .i64 pt), .d (.int .i64 pe), .d (.int .i64 tn)], .d (.bool false)]) [.ar 3 0 xs]))
             (k (.tup [.agg [.sl 0, .d (.int .i64 sh), .d (.int .i64 pk), .d (.int .i64 pf), .d (.int .i64 ps), .d (.str pb), .d (.int .i64 pr), .d (.int .i64 pt), .d (.int .i64 pe), .d (.int .i64 tn)], .d (.bool false)]) [.ar 3 0 xs]))))
          (br (dk == 4)
           (br (pk == 3)
            (br (pe == 0)
             (br (!((qk == 0) && ((qf == 0) && ((qs == 0) && (decide (qb = ⟨#[]⟩) && ((qr == 0) && ((qt == 0) && ((qe == 0) && true))))))))
              (k (.tup [.agg [.sl 0, .d (.int .i64 sh), .d (.int .i64 pk), .d (.int .i64 pf), .d (.int .i64 ps), .d (.str pb), .d (.int .i64 pr), .d (.int .i64 pt), .d (.int .i64 pe), .d (.int .i64 tn)], .d (.bool false)]) [.ar 3 0 xs])
              (bi (unRoutes xs) fun rs37 =>
               chk (decide (rs37.length ≤ 1048576))
               (br (!(masterOk ⟨rs37, sh, ⟨pk, pf, ps, pb, pr, pt, (1 : Int)⟩, tn⟩))
                (k (.tup [.agg [.sl 0, .d (.int .i64 sh), .d (.int .i64 pk), .d (.int .i64 pf), .d (.int .i64 ps), .d (.str pb), .d (.int .i64 pr), .d (.int .i64 pt), .d (.int .i64 pe), .d (.int .i64 tn)], .d (.bool false)]) [.ar 3 0 xs])
                (k (.tup [.agg [.sl 0, .d (.int .i64 sh), .d (.int .i64 pk), .d (.int .i64 pf), .d (.int .i64 ps), .d (.str pb), .d (.int .i64 pr), .d (.int .i64 pt), .d (.int .i64 1), .d (.int .i64 tn)], .d (.bool true)]) [.ar 3 0 xs]))))
             (br (dk == 5)
              (br (pk == 3)
               (br (!((qk == 0) && ((qf == 0) && ((qs == 0) && (decide (qb = ⟨#[]⟩) && ((qr == 0) && ((qt == 0) && ((qe == 0) && true))))))))
                (k (.tup [.agg [.sl 0, .d (.int .i64 sh), .d (.int .i64 pk), .d (.int .i64 pf), .d (.int .i64 ps), .d (.str pb), .d (.int .i64 pr), .d (.int .i64 pt), .d (.int .i64 pe), .d (.int .i64 tn)], .d (.bool false)]) [.ar 3 0 xs])
                (bi (unRoutes xs) fun rs38 =>
                 chk (decide (rs38.length ≤ 1048576))
                 (br (!(masterOk ⟨rs38, sh, ⟨(0 : Int), (0 : Int), (0 : Int), ⟨#[]⟩, (0 : Int), (0 : Int), (0 : Int)⟩, tn⟩))
                  (k (.tup [.agg [.sl 0, .d (.int .i64 sh), .d (.int .i64 pk), .d (.int .i64 pf), .d (.int .i64 ps), .d (.str pb), .d (.int .i64 pr), .d (.int .i64 pt), .d (.int .i64 pe), .d (.int .i64 tn)], .d (.bool false)]) [.ar 3 0 xs])
                  (k (.tup [.agg [.sl 0, .d (.int .i64 sh), .d (.int .i64 0), .d (.int .i64 0), .d (.int .i64 0), .d (.str ⟨#[]⟩), .d (.int .i64 0), .d (.int .i64 0), .d (.int .i64 0), .d (.int .i64 tn)], .d (.bool true)]) [.ar 3 0 xs]))))
               (k (.tup [.agg [.sl 0, .d (.int .i64 sh), .d (.int .i64 pk), .d (.int .i64 pf), .d (.int .i64 ps), .d (.str pb), .d (.int .i64 pr), .d (.int .i64 pt), .d (.int .i64 pe), .d (.int .i64 tn)], .d (.bool false)]) [.ar 3 0 xs]))
              (k (.tup [.agg [.sl 0, .d (.int .i64 sh), .d (.int .i64 pk), .d (.int .i64 pf), .d (.int .i64 ps), .d (.str pb), .d (.int .i64 pr), .d (.int .i64 pt), .d (.int .i64 pe), .d (.int .i64 tn)], .d (.bool false)]) [.ar 3 0 xs])))
            (br (dk == 5)
             (br (pk == 3)
              (br (!((qk == 0) && ((qf == 0) && ((qs == 0) && (decide (qb = ⟨#[]⟩) && ((qr == 0) && ((qt == 0) && ((qe == 0) && true))))))))
               (k (.tup [.agg [.sl 0, .d (.int .i64 sh), .d (.int .i64 pk), .d (.int .i64 pf), .d (.int .i64 ps), .d (.str pb), .d (.int .i64 pr), .d (.int .i64 pt), .d (.int .i64 pe), .d (.int .i64 tn)], .d (.bool false)]) [.ar 3 0 xs])
               (bi (unRoutes xs) fun rs39 =>
                chk (decide (rs39.length ≤ 1048576))
                (br (!(masterOk ⟨rs39, sh, ⟨(0 : Int), (0 : Int), (0 : Int), ⟨#[]⟩, (0 : Int), (0 : Int), (0 : Int)⟩, tn⟩))
                 (k (.tup [.agg [.sl 0, .d (.int .i64 sh), .d (.int .i64 pk), .d (.int .i64 pf), .d (.int .i64 ps), .d (.str pb), .d (.int .i64 pr), .d (.int .i64 pt), .d (.int .i64 pe), .d (.int .i64 tn)], .d (.bool false)]) [.ar 3 0 xs])
                 (k (.tup [.agg [.sl 0, .d (.int .i64 sh), .d (.int .i64 0), .d (.int .i64 0), .d (.int .i64 0), .d (.str ⟨#[]⟩), .d (.int .i64 0), .d (.int .i64 0), .d (.int .i64 0), .d (.int .i64 tn)], .d (.bool true)]) [.ar 3 0 xs]))))
              (k (.tup [.agg [.sl 0, .d (.int .i64 sh), .d (.int .i64 pk), .d (.int .i64 pf), .d (.int .i64 ps), .d (.str pb), .d (.int .i64 pr), .d (.int .i64 pt), .d (.int .i64 pe), .d (.int .i64 tn)], .d (.bool false)]) [.ar 3 0 xs]))
             (k (.tup [.agg [.sl 0, .d (.int .i64 sh), .d (.int .i64 pk), .d (.int .i64 pf), .d (.int .i64 ps), .d (.str pb), .d (.int .i64 pr), .d (.int .i64 pt), .d (.int .i64 pe), .d (.int .i64 tn)], .d (.bool false)]) [.ar 3 0 xs])))
           (br (dk == 5)
            (br (pk == 3)
             (br (!((qk == 0) && ((qf == 0) && ((qs == 0) && (decide (qb = ⟨#[]⟩) && ((qr == 0) && ((qt == 0) && ((qe == 0) && true))))))))
              (k (.tup [.agg [.sl 0, .d (.int .i64 sh), .d (.int .i64 pk), .d (.int .i64 pf), .d (.int .i64 ps), .d (.str pb), .d (.int .i64 pr), .d (.int .i64 pt), .d (.int .i64 pe), .d (.int .i64 tn)], .d (.bool false)]) [.ar 3 0 xs])
              (bi (unRoutes xs) fun rs40 =>
               chk (decide (rs40.length ≤ 1048576))
               (br (!(masterOk ⟨rs40, sh, ⟨(0 : Int), (0 : Int), (0 : Int), ⟨#[]⟩, (0 : Int), (0 : Int), (0 : Int)⟩, tn⟩))
                (k (.tup [.agg [.sl 0, .d (.int .i64 sh), .d (.int .i64 pk), .d (.int .i64 pf), .d (.int .i64 ps), .d (.str pb), .d (.int .i64 pr), .d (.int .i64 pt), .d (.int .i64 pe), .d (.int .i64 tn)], .d (.bool false)]) [.ar 3 0 xs])
                (k (.tup [.agg [.sl 0, .d (.int .i64 sh), .d (.int .i64 0), .d (.int .i64 0), .d (.int .i64 0), .d (.str ⟨#[]⟩), .d (.int .i64 0), .d (.int .i64 0), .d (.int .i64 0), .d (.int .i64 tn)], .d (.bool true)]) [.ar 3 0 xs]))))
             (k (.tup [.agg [.sl 0, .d (.int .i64 sh), .d (.int .i64 pk), .d (.int .i64 pf), .d (.int .i64 ps), .d (.str pb), .d (.int .i64 pr), .d (.int .i64 pt), .d (.int .i64 pe), .d (.int .i64 tn)], .d (.bool false)]) [.ar 3 0 xs]))
            (k (.tup [.agg [.sl 0, .d (.int .i64 sh), .d (.int .i64 pk), .d (.int .i64 pf), .d (.int .i64 ps), .d (.str pb), .d (.int .i64 pr), .d (.int .i64 pt), .d (.int .i64 pe), .d (.int .i64 tn)], .d (.bool false)]) [.ar 3 0 xs])))))))))))

def spec_ApplyDecision_dr3 : List DI := [⟨0, 0, [6, 20, 21, 23, 24, 25, 26, 27, 28], [], 0⟩, ⟨1, 0, [6, 19, 23, 24, 25, 26, 27, 28], [], 3⟩, ⟨2, 2, [6, 19, 23, 24, 25, 26, 27, 28], [], 3⟩, ⟨3, 7, [6, 23, 24, 25, 26, 27, 28], [], 1⟩, ⟨4, 0, [6, 19, 20, 21, 22, 25, 26, 27, 28], [], 3⟩, ⟨5, 16, [6, 19, 20, 21, 22, 25, 26, 27, 28], [], 3⟩, ⟨6, 0, [6, 19, 20, 21, 22, 23, 24, 27, 28], [], 3⟩, ⟨7, 64, [6, 19, 20, 21, 22, 23, 24, 27, 28], [], 3⟩, ⟨8, 0, [6, 19, 20, 21, 22, 23, 24, 25, 26], [], 3⟩, ⟨9, 256, [6, 19, 20, 21, 22, 23, 24, 25, 26], [], 3⟩, ⟨10, 1023, [6], [], 3⟩, ⟨11, 0, [19, 20, 21, 22, 23, 24, 25, 26, 27, 28, 29], [], 2⟩, ⟨12, 4095, [], [], 3⟩]

def spec_ApplyDecision_dr4 : List DI := [⟨0, 0, [7, 31, 32, 34, 35, 36, 37], [], 0⟩, ⟨1, 0, [7, 30, 34, 35, 36, 37], [], 3⟩, ⟨2, 2, [7, 30, 34, 35, 36, 37], [], 3⟩, ⟨3, 7, [7, 34, 35, 36, 37], [], 1⟩, ⟨4, 0, [7, 30, 31, 32, 33, 36, 37], [], 3⟩, ⟨5, 16, [7, 30, 31, 32, 33, 36, 37], [], 3⟩, ⟨6, 0, [7, 30, 31, 32, 33, 34, 35], [], 3⟩, ⟨7, 64, [7, 30, 31, 32, 33, 34, 35], [], 3⟩, ⟨8, 255, [7], [], 3⟩, ⟨9, 0, [30, 31, 32, 33, 34, 35, 36, 37, 38], [], 2⟩, ⟨10, 1023, [], [], 3⟩]

def spec_ApplyDecision_dr22 : List DI := [⟨0, 0, [], [], 0⟩, ⟨1, 1, [], [], 0⟩, ⟨2, 3, [], [], 0⟩, ⟨3, 7, [], [], 0⟩, ⟨4, 15, [], [], 0⟩, ⟨5, 31, [154, 155, 159, 160], [], 0⟩, ⟨6, 63, [154, 155, 159, 160], [], 0⟩, ⟨7, 31, [152, 153, 159, 160], [], 0⟩, ⟨8, 159, [152, 153, 159, 160], [], 0⟩, ⟨9, 511, [159, 160], [], 0⟩, ⟨10, 1023, [159, 160], [], 0⟩, ⟨11, 2047, [159, 160], [], 0⟩, ⟨12, 31, [152, 153, 154, 155, 156, 157, 158], [], 0⟩, ⟨13, 4127, [152, 153, 154, 155, 156, 157, 158], [], 0⟩, ⟨14, 16383, [], [], 0⟩, ⟨15, 32767, [], [], 0⟩, ⟨16, 65535, [], [], 0⟩]

def spec_ApplyDecision_C (N : Nat) : CC := ⟨Γ_impl_ApplyDecision, Λ0, (Δc 22 spec_ApplyDecision_dr22 (Δc 4 spec_ApplyDecision_dr4 (Δc 3 spec_ApplyDecision_dr3 Δ0))), Μ0⟩

theorem spec_ApplyDecision_C_Γ (N : Nat) : ∀ f s, (spec_ApplyDecision_C N).Γ f = some s → SmrOK Try.prog f s := Γ_impl_ApplyDecision_ok

theorem spec_ApplyDecision_C_Λ (N : Nat) : ∀ c, Try.f8.body = some c → ∀ b ∈ loopsIn c, ∀ s, (spec_ApplyDecision_C N).Λ (lid b) = some s → LOK Try.prog Try.f8.ntmps 0 b s :=
  LOKs_ofF (bs := []) (by kernel_rfl) LOKs_n

theorem spec_ApplyDecision_run {R : Type} (N : Nat) (xs : List (List PV)) (sh : Int) (pk : Int) (pf : Int) (ps : Int) (pb : ByteArray) (pr : Int) (pt : Int) (pe : Int) (tn : Int) (dk : Int) (qk : Int) (qf : Int) (qs : Int) (qb : ByteArray) (qr : Int) (qt : Int) (qe : Int) (k : AV → List AB → Option R) :
    cfunN tt (spec_ApplyDecision_C N) Try.f8 0 [.agg [.d (.ls xs), .d (.int .i64 sh), .d (.int .i64 pk), .d (.int .i64 pf), .d (.int .i64 ps), .d (.str pb), .d (.int .i64 pr), .d (.int .i64 pt), .d (.int .i64 pe), .d (.int .i64 tn)], .agg [.d (.int .i64 dk), .d (.int .i64 qk), .d (.int .i64 qf), .d (.int .i64 qs), .d (.str qb), .d (.int .i64 qr), .d (.int .i64 qt), .d (.int .i64 qe)]] [] k = spec_ApplyDecision_c N xs sh pk pf ps pb pr pt pe tn dk qk qf qs qb qr qt qe k := by kernel_rfl

theorem spec_ApplyDecision_ceq {R : Type} (N : Nat) (sh : Int) (pk : Int) (pf : Int) (ps : Int) (pb : ByteArray) (pr : Int) (pt : Int) (pe : Int) (tn : Int) (dk : Int) (qk : Int) (qf : Int) (qs : Int) (qb : ByteArray) (qr : Int) (qt : Int) (qe : Int) (rs : List Route) (k : AV → List AB → Option R) (hp1 : (decide (rs.length ≤ 1048576)) = true) :
    spec_ApplyDecision_c N (rs.map Route.pv) sh pk pf ps pb pr pt pe tn dk qk qf qs qb qr qt qe k = br (masterOk ⟨rs, sh, ⟨pk, pf, ps, pb, pr, pt, pe⟩, tn⟩) (k (.tup [.agg [.sl 0, .d (.int .i64 ((applyDec ⟨rs, sh, ⟨pk, pf, ps, pb, pr, pt, pe⟩, tn⟩ ⟨dk, ⟨qk, qf, qs, qb, qr, qt, qe⟩⟩).1.shards)), .d (.int .i64 ((applyDec ⟨rs, sh, ⟨pk, pf, ps, pb, pr, pt, pe⟩, tn⟩ ⟨dk, ⟨qk, qf, qs, qb, qr, qt, qe⟩⟩).1.work.kind)), .d (.int .i64 ((applyDec ⟨rs, sh, ⟨pk, pf, ps, pb, pr, pt, pe⟩, tn⟩ ⟨dk, ⟨qk, qf, qs, qb, qr, qt, qe⟩⟩).1.work.first)), .d (.int .i64 ((applyDec ⟨rs, sh, ⟨pk, pf, ps, pb, pr, pt, pe⟩, tn⟩ ⟨dk, ⟨qk, qf, qs, qb, qr, qt, qe⟩⟩).1.work.second)), .d (.str ((applyDec ⟨rs, sh, ⟨pk, pf, ps, pb, pr, pt, pe⟩, tn⟩ ⟨dk, ⟨qk, qf, qs, qb, qr, qt, qe⟩⟩).1.work.key)), .d (.int .i64 ((applyDec ⟨rs, sh, ⟨pk, pf, ps, pb, pr, pt, pe⟩, tn⟩ ⟨dk, ⟨qk, qf, qs, qb, qr, qt, qe⟩⟩).1.work.src)), .d (.int .i64 ((applyDec ⟨rs, sh, ⟨pk, pf, ps, pb, pr, pt, pe⟩, tn⟩ ⟨dk, ⟨qk, qf, qs, qb, qr, qt, qe⟩⟩).1.work.dst)), .d (.int .i64 ((applyDec ⟨rs, sh, ⟨pk, pf, ps, pb, pr, pt, pe⟩, tn⟩ ⟨dk, ⟨qk, qf, qs, qb, qr, qt, qe⟩⟩).1.work.step)), .d (.int .i64 ((applyDec ⟨rs, sh, ⟨pk, pf, ps, pb, pr, pt, pe⟩, tn⟩ ⟨dk, ⟨qk, qf, qs, qb, qr, qt, qe⟩⟩).1.turn))], .d (.bool ((applyDec ⟨rs, sh, ⟨pk, pf, ps, pb, pr, pt, pe⟩, tn⟩ ⟨dk, ⟨qk, qf, qs, qb, qr, qt, qe⟩⟩).2))]) [.ar 3 0 ((applyDec ⟨rs, sh, ⟨pk, pf, ps, pb, pr, pt, pe⟩, tn⟩ ⟨dk, ⟨qk, qf, qs, qb, qr, qt, qe⟩⟩).1.routes.map Route.pv)]) (k (.tup [.agg [.nil, .d (.int .i64 0), .d (.int .i64 0), .d (.int .i64 0), .d (.int .i64 0), .d (.str ⟨#[]⟩), .d (.int .i64 0), .d (.int .i64 0), .d (.int .i64 0), .d (.int .i64 0)], .d (.bool false)]) []) := by
  have hp1' := hp1
  simp only [decide_eq_true_eq] at hp1'
  simp only [spec_ApplyDecision_c, Route.pv, Iv.pv, dInt_c, dStr_c, List.length_cons, List.length_nil, Nat.zero_add, Nat.reduceAdd, chk_beq, chk_t, br_t, br_f, bi_s, unRoutes_map, unIvs_map, hp1, List.length_map, noPlan_eq]
  simp only [Route.pv, Iv.pv, dInt_c, dStr_c, List.length_cons, List.length_nil, Nat.zero_add, Nat.reduceAdd, chk_beq, chk_t, br_t, br_f, bi_s, unRoutes_map, unIvs_map, bne_not, br_not, beq_dec, decide_true]
  cases hm : masterOk ⟨rs, sh, ⟨pk, pf, ps, pb, pr, pt, pe⟩, tn⟩
  · rfl
  · have M := mok hm
    have ec : clim rs.length 40 = true := clim_t (by omega)
    have e1 : decide ((splitR rs pf pb sh (sh + 1)).1.length ≤ 1048576) = true := decide_eq_true (by have := splitR_len M.len pf pb sh (sh + 1); omega)
    have e2 : decide ((mergeR rs pf sh).1.length ≤ 1048576) = true := decide_eq_true (by have := mergeR_len M.len pf sh; omega)
    have e4 : (⟨0, 0, 0, ⟨#[]⟩, 0, 0, 0⟩ : Plan) = noPlan := rfl
    have w1 : IntKind.i64.wrap (tn + 1) = tn + 1 := wrap_id (by have := M.t0; omega) (by have := M.t9; omega)
    have w2 : IntKind.i64.wrap (sh + 1) = sh + 1 := wrap_id (by have := M.s1; omega) (by have := M.s8; omega)
    have w3 : IntKind.i64.wrap (sh + 2) = sh + 2 := wrap_id (by have := M.s1; omega) (by have := M.s8; omega)
    simp only [w1, w2, w3, ec, e1, e2, chk_t, br_t, br_f, e4, widthOk_map Route.pv_len, flatL_map Route.pv_flat, Bool.and_self]
    simp only [applyDec, hm, if_true, cand]
    by_cases h1 : dk = 1
    · subst h1
      simp only [decide_true, br_t, if_true]
      rw [show beginOk ⟨pk, pf, ps, pb, pr, pt, pe⟩ sh tn ⟨qk, qf, qs, qb, qr, qt, qe⟩ = (planOk ⟨qk, qf, qs, qb, qr, qt, qe⟩ && decide (qe = 0) && decide (qf < sh) && decide (qs < sh) && decide (Plan.mk pk pf ps pb pr pt pe = noPlan) && decide (tn < 999)) from rfl]
      have hk := work_kind M.wk
      simp only [beq_dec] at hk
      rw [hk]
      rw [show workOk ⟨qk, qf, qs, qb, qr, qt, qe⟩ sh = (decide (Plan.mk qk qf qs qb qr qt qe = noPlan) || (planOk ⟨qk, qf, qs, qb, qr, qt, qe⟩ && decide (qf < sh) && decide (qs < sh))) from rfl]
      by_cases hq : Plan.mk qk qf qs qb qr qt qe = noPlan
      · have hp : planOk ⟨qk, qf, qs, qb, qr, qt, qe⟩ = false := by rw [hq]; rfl
        rw [hp]; rfl
      · simp only [hq, decide_false, Bool.false_or]
        cases planOk ⟨qk, qf, qs, qb, qr, qt, qe⟩ <;> cases decide (qe = 0) <;> cases decide (qf < sh) <;> cases decide (qs < sh) <;> cases decide (Plan.mk pk pf ps pb pr pt pe = noPlan) <;> cases decide (tn < 999) <;> first | rfl | (simp only [br_t, if_true, Bool.and_self]; cases masterOk ⟨rs, sh, ⟨qk, qf, qs, qb, qr, qt, qe⟩, tn + 1⟩ <;> rfl)
    simp only [h1, decide_false, br_f, if_false]
    by_cases h2 : dk = 2
    · subst h2
      simp only [decide_true, br_t, if_true, show decide ((2 : Int) = 3) = false from rfl, show decide ((2 : Int) = 4) = false from rfl, show decide ((2 : Int) = 5) = false from rfl, br_f]
      by_cases hq : Plan.mk qk qf qs qb qr qt qe = noPlan
      · simp only [hq, decide_true, br_t, ne_eq, not_true_eq_false, if_false]
        by_cases hk : pk = 1
        · simp only [hk, decide_true, br_t, true_and]
          cases hs : (splitR rs pf pb sh (sh + 1)).2
          · rfl
          · simp only [br_t, if_true]
            cases hn : masterOk ⟨(splitR rs pf pb sh (sh + 1)).1, sh + 2, noPlan, tn⟩ <;> rfl
        · simp only [hk, decide_false, br_f, false_and, if_false]
      · simp only [hq, decide_false, br_f, ne_eq, not_false_eq_true, if_true, br_same]
    simp only [h2, decide_false, br_f, if_false]
    by_cases h3 : dk = 3
    · subst h3
      simp only [decide_true, br_t, if_true, show decide ((3 : Int) = 4) = false from rfl, show decide ((3 : Int) = 5) = false from rfl, br_f]
      by_cases hq : Plan.mk qk qf qs qb qr qt qe = noPlan
      · simp only [hq, decide_true, br_t, ne_eq, not_true_eq_false, if_false]
        by_cases hk : pk = 2
        · simp only [hk, decide_true, br_t]
          cases hs : (mergeR rs pf sh).2
          · simp only [br_f, Bool.false_eq_true, and_false, if_false]
          · obtain ⟨i, hx, hi⟩ := merge_facts hs
            simp only [br_t, and_true, mergesOk, hx, decide_true, Bool.true_and]
            rw [idx_s, wrap_s (by omega), getC_map hi, second_eq M.ok hi]
            simp only [Route.pv, Iv.pv, dInt_c, dStr_c, List.length_cons, List.length_nil, Nat.zero_add, Nat.reduceAdd, chk_beq, chk_t, br_t, br_f, bi_s, unRoutes_map, unIvs_map]
            cases hn : decide (rs[i + 1].number = ps)
            · rfl
            · simp only [br_t, if_true]
              cases masterOk ⟨(mergeR rs pf sh).1, sh + 1, noPlan, tn⟩ <;> rfl
        · have : mergesOk rs ⟨pk, pf, ps, pb, pr, pt, pe⟩ = false := by simp only [mergesOk, hk, decide_false, Bool.false_and]
          simp only [hk, decide_false, br_f, this, Bool.false_eq_true, false_and, if_false]
      · simp only [hq, decide_false, br_f, ne_eq, not_false_eq_true, if_true, br_same]
    simp only [h3, decide_false, br_f, if_false]
    by_cases h4 : dk = 4
    · subst h4
      simp only [decide_true, br_t, if_true, show decide ((4 : Int) = 5) = false from rfl, br_f]
      by_cases hq : Plan.mk qk qf qs qb qr qt qe = noPlan
      · simp only [hq, decide_true, br_t, ne_eq, not_true_eq_false, if_false]
        by_cases hk : pk = 3
        · subst hk
          by_cases he : pe = 0
          · subst he
            simp only [decide_true, br_t, true_and, if_true]
            cases hn : masterOk ⟨rs, sh, ⟨3, pf, ps, pb, pr, pt, 1⟩, tn⟩ <;> rfl
          · simp only [he, decide_true, decide_false, br_t, br_f, true_and, if_false]
        · simp only [hk, decide_false, br_f, false_and, if_false]
      · simp only [hq, decide_false, br_f, ne_eq, not_false_eq_true, if_true, br_same]
    simp only [h4, decide_false, br_f, if_false]
    by_cases h5 : dk = 5
    · subst h5
      simp only [decide_true, br_t, if_true]
      by_cases hq : Plan.mk qk qf qs qb qr qt qe = noPlan
      · simp only [hq, decide_true, br_t, ne_eq, not_true_eq_false, if_false]
        by_cases hk : pk = 3
        · subst hk
          simp only [decide_true, br_t, if_true]
          cases hn : masterOk ⟨rs, sh, noPlan, tn⟩ <;> rfl
        · simp only [hk, decide_false, br_f, if_false]
      · simp only [hq, decide_false, br_f, ne_eq, not_false_eq_true, if_true, br_same]
    · simp only [h5, decide_false, br_f, br_same, if_false]
      by_cases hq : Plan.mk qk qf qs qb qr qt qe = noPlan
      · simp only [hq, ne_eq, not_true_eq_false, if_false]
      · simp only [hq, ne_eq, not_false_eq_true, if_true]
theorem spec_ApplyDecision_weq (sh : Int) (pk : Int) (pf : Int) (ps : Int) (pb : ByteArray) (pr : Int) (pt : Int) (pe : Int) (tn : Int) (dk : Int) (qk : Int) (qf : Int) (qs : Int) (qb : ByteArray) (qr : Int) (qt : Int) (qe : Int) (rs : List Route) (hp1 : (decide (rs.length ≤ 1048576)) = true) :
    br (masterOk ⟨rs, sh, ⟨pk, pf, ps, pb, pr, pt, pe⟩, tn⟩) ((fun a m => some (wdA 3 a m)) (.tup [.agg [.sl 0, .d (.int .i64 ((applyDec ⟨rs, sh, ⟨pk, pf, ps, pb, pr, pt, pe⟩, tn⟩ ⟨dk, ⟨qk, qf, qs, qb, qr, qt, qe⟩⟩).1.shards)), .d (.int .i64 ((applyDec ⟨rs, sh, ⟨pk, pf, ps, pb, pr, pt, pe⟩, tn⟩ ⟨dk, ⟨qk, qf, qs, qb, qr, qt, qe⟩⟩).1.work.kind)), .d (.int .i64 ((applyDec ⟨rs, sh, ⟨pk, pf, ps, pb, pr, pt, pe⟩, tn⟩ ⟨dk, ⟨qk, qf, qs, qb, qr, qt, qe⟩⟩).1.work.first)), .d (.int .i64 ((applyDec ⟨rs, sh, ⟨pk, pf, ps, pb, pr, pt, pe⟩, tn⟩ ⟨dk, ⟨qk, qf, qs, qb, qr, qt, qe⟩⟩).1.work.second)), .d (.str ((applyDec ⟨rs, sh, ⟨pk, pf, ps, pb, pr, pt, pe⟩, tn⟩ ⟨dk, ⟨qk, qf, qs, qb, qr, qt, qe⟩⟩).1.work.key)), .d (.int .i64 ((applyDec ⟨rs, sh, ⟨pk, pf, ps, pb, pr, pt, pe⟩, tn⟩ ⟨dk, ⟨qk, qf, qs, qb, qr, qt, qe⟩⟩).1.work.src)), .d (.int .i64 ((applyDec ⟨rs, sh, ⟨pk, pf, ps, pb, pr, pt, pe⟩, tn⟩ ⟨dk, ⟨qk, qf, qs, qb, qr, qt, qe⟩⟩).1.work.dst)), .d (.int .i64 ((applyDec ⟨rs, sh, ⟨pk, pf, ps, pb, pr, pt, pe⟩, tn⟩ ⟨dk, ⟨qk, qf, qs, qb, qr, qt, qe⟩⟩).1.work.step)), .d (.int .i64 ((applyDec ⟨rs, sh, ⟨pk, pf, ps, pb, pr, pt, pe⟩, tn⟩ ⟨dk, ⟨qk, qf, qs, qb, qr, qt, qe⟩⟩).1.turn))], .d (.bool ((applyDec ⟨rs, sh, ⟨pk, pf, ps, pb, pr, pt, pe⟩, tn⟩ ⟨dk, ⟨qk, qf, qs, qb, qr, qt, qe⟩⟩).2))]) [.ar 3 0 ((applyDec ⟨rs, sh, ⟨pk, pf, ps, pb, pr, pt, pe⟩, tn⟩ ⟨dk, ⟨qk, qf, qs, qb, qr, qt, qe⟩⟩).1.routes.map Route.pv)]) ((fun a m => some (wdA 3 a m)) (.tup [.agg [.nil, .d (.int .i64 0), .d (.int .i64 0), .d (.int .i64 0), .d (.int .i64 0), .d (.str ⟨#[]⟩), .d (.int .i64 0), .d (.int .i64 0), .d (.int .i64 0), .d (.int .i64 0)], .d (.bool false)]) []) = some (.tup [.agg [.sl 0, .d (.int .i64 ((applyDec ⟨rs, sh, ⟨pk, pf, ps, pb, pr, pt, pe⟩, tn⟩ ⟨dk, ⟨qk, qf, qs, qb, qr, qt, qe⟩⟩).1.shards)), .d (.int .i64 ((applyDec ⟨rs, sh, ⟨pk, pf, ps, pb, pr, pt, pe⟩, tn⟩ ⟨dk, ⟨qk, qf, qs, qb, qr, qt, qe⟩⟩).1.work.kind)), .d (.int .i64 ((applyDec ⟨rs, sh, ⟨pk, pf, ps, pb, pr, pt, pe⟩, tn⟩ ⟨dk, ⟨qk, qf, qs, qb, qr, qt, qe⟩⟩).1.work.first)), .d (.int .i64 ((applyDec ⟨rs, sh, ⟨pk, pf, ps, pb, pr, pt, pe⟩, tn⟩ ⟨dk, ⟨qk, qf, qs, qb, qr, qt, qe⟩⟩).1.work.second)), .d (.str ((applyDec ⟨rs, sh, ⟨pk, pf, ps, pb, pr, pt, pe⟩, tn⟩ ⟨dk, ⟨qk, qf, qs, qb, qr, qt, qe⟩⟩).1.work.key)), .d (.int .i64 ((applyDec ⟨rs, sh, ⟨pk, pf, ps, pb, pr, pt, pe⟩, tn⟩ ⟨dk, ⟨qk, qf, qs, qb, qr, qt, qe⟩⟩).1.work.src)), .d (.int .i64 ((applyDec ⟨rs, sh, ⟨pk, pf, ps, pb, pr, pt, pe⟩, tn⟩ ⟨dk, ⟨qk, qf, qs, qb, qr, qt, qe⟩⟩).1.work.dst)), .d (.int .i64 ((applyDec ⟨rs, sh, ⟨pk, pf, ps, pb, pr, pt, pe⟩, tn⟩ ⟨dk, ⟨qk, qf, qs, qb, qr, qt, qe⟩⟩).1.work.step)), .d (.int .i64 ((applyDec ⟨rs, sh, ⟨pk, pf, ps, pb, pr, pt, pe⟩, tn⟩ ⟨dk, ⟨qk, qf, qs, qb, qr, qt, qe⟩⟩).1.turn))], .d (.bool ((applyDec ⟨rs, sh, ⟨pk, pf, ps, pb, pr, pt, pe⟩, tn⟩ ⟨dk, ⟨qk, qf, qs, qb, qr, qt, qe⟩⟩).2))], [.ar 3 0 ((applyDec ⟨rs, sh, ⟨pk, pf, ps, pb, pr, pt, pe⟩, tn⟩ ⟨dk, ⟨qk, qf, qs, qb, qr, qt, qe⟩⟩).1.routes.map Route.pv)]) := by
  cases hm : masterOk ⟨rs, sh, ⟨pk, pf, ps, pb, pr, pt, pe⟩, tn⟩
  · simp only [br_f, applyDec, hm]; rfl
  · simp only [br_t]; rfl
def spec_ApplyDecision_sm : Smr := ⟨[false, false], fun R args mem k => match nilAVs args, mem with
  | [.agg [.d (.ls xs), .d (.int .i64 sh), .d (.int .i64 pk), .d (.int .i64 pf), .d (.int .i64 ps), .d (.str pb), .d (.int .i64 pr), .d (.int .i64 pt), .d (.int .i64 pe), .d (.int .i64 tn)], .agg [.d (.int .i64 dk), .d (.int .i64 qk), .d (.int .i64 qf), .d (.int .i64 qs), .d (.str qb), .d (.int .i64 qr), .d (.int .i64 qt), .d (.int .i64 qe)]], [] => bi (unRoutes xs) fun rs => chk (decide (rs.length ≤ 1048576)) (k (.tup [.agg [.sl 0, .d (.int .i64 ((applyDec ⟨rs, sh, ⟨pk, pf, ps, pb, pr, pt, pe⟩, tn⟩ ⟨dk, ⟨qk, qf, qs, qb, qr, qt, qe⟩⟩).1.shards)), .d (.int .i64 ((applyDec ⟨rs, sh, ⟨pk, pf, ps, pb, pr, pt, pe⟩, tn⟩ ⟨dk, ⟨qk, qf, qs, qb, qr, qt, qe⟩⟩).1.work.kind)), .d (.int .i64 ((applyDec ⟨rs, sh, ⟨pk, pf, ps, pb, pr, pt, pe⟩, tn⟩ ⟨dk, ⟨qk, qf, qs, qb, qr, qt, qe⟩⟩).1.work.first)), .d (.int .i64 ((applyDec ⟨rs, sh, ⟨pk, pf, ps, pb, pr, pt, pe⟩, tn⟩ ⟨dk, ⟨qk, qf, qs, qb, qr, qt, qe⟩⟩).1.work.second)), .d (.str ((applyDec ⟨rs, sh, ⟨pk, pf, ps, pb, pr, pt, pe⟩, tn⟩ ⟨dk, ⟨qk, qf, qs, qb, qr, qt, qe⟩⟩).1.work.key)), .d (.int .i64 ((applyDec ⟨rs, sh, ⟨pk, pf, ps, pb, pr, pt, pe⟩, tn⟩ ⟨dk, ⟨qk, qf, qs, qb, qr, qt, qe⟩⟩).1.work.src)), .d (.int .i64 ((applyDec ⟨rs, sh, ⟨pk, pf, ps, pb, pr, pt, pe⟩, tn⟩ ⟨dk, ⟨qk, qf, qs, qb, qr, qt, qe⟩⟩).1.work.dst)), .d (.int .i64 ((applyDec ⟨rs, sh, ⟨pk, pf, ps, pb, pr, pt, pe⟩, tn⟩ ⟨dk, ⟨qk, qf, qs, qb, qr, qt, qe⟩⟩).1.work.step)), .d (.int .i64 ((applyDec ⟨rs, sh, ⟨pk, pf, ps, pb, pr, pt, pe⟩, tn⟩ ⟨dk, ⟨qk, qf, qs, qb, qr, qt, qe⟩⟩).1.turn))], .d (.bool ((applyDec ⟨rs, sh, ⟨pk, pf, ps, pb, pr, pt, pe⟩, tn⟩ ⟨dk, ⟨qk, qf, qs, qb, qr, qt, qe⟩⟩).2))]) [.ar 3 0 ((applyDec ⟨rs, sh, ⟨pk, pf, ps, pb, pr, pt, pe⟩, tn⟩ ⟨dk, ⟨qk, qf, qs, qb, qr, qt, qe⟩⟩).1.routes.map Route.pv)])
  | _, _ => none⟩

theorem spec_ApplyDecision_ok : SmrOK Try.prog 8 spec_ApplyDecision_sm := by
  intro R args mem k r h
  simp only [spec_ApplyDecision_sm] at h
  generalize hA : nilAVs args = args' at h
  split at h
  · rename_i xs sh pk pf ps pb pr pt pe tn dk qk qf qs qb qr qt qe
    obtain ⟨rs, hd0, h1⟩ := bi_eq h
    have hd0 := unRoutes_eq hd0
    subst hd0
    obtain ⟨hp1, h2⟩ := chk_eq h1
    replace h := h2
    refine ⟨_, _, Spec.nl hA ?_, h⟩
    have hw := spec_ApplyDecision_weq sh pk pf ps pb pr pt pe tn dk qk qf qs qb qr qt qe rs hp1
    cases hb0 : (masterOk ⟨rs, sh, ⟨pk, pf, ps, pb, pr, pt, pe⟩, tn⟩) with
    | true =>
      simp only [br, hb0] at hw
      have hs : Spec Try.prog 8 _ [] (.tup [.agg [.sl 0, .d (.int .i64 ((applyDec ⟨rs, sh, ⟨pk, pf, ps, pb, pr, pt, pe⟩, tn⟩ ⟨dk, ⟨qk, qf, qs, qb, qr, qt, qe⟩⟩).1.shards)), .d (.int .i64 ((applyDec ⟨rs, sh, ⟨pk, pf, ps, pb, pr, pt, pe⟩, tn⟩ ⟨dk, ⟨qk, qf, qs, qb, qr, qt, qe⟩⟩).1.work.kind)), .d (.int .i64 ((applyDec ⟨rs, sh, ⟨pk, pf, ps, pb, pr, pt, pe⟩, tn⟩ ⟨dk, ⟨qk, qf, qs, qb, qr, qt, qe⟩⟩).1.work.first)), .d (.int .i64 ((applyDec ⟨rs, sh, ⟨pk, pf, ps, pb, pr, pt, pe⟩, tn⟩ ⟨dk, ⟨qk, qf, qs, qb, qr, qt, qe⟩⟩).1.work.second)), .d (.str ((applyDec ⟨rs, sh, ⟨pk, pf, ps, pb, pr, pt, pe⟩, tn⟩ ⟨dk, ⟨qk, qf, qs, qb, qr, qt, qe⟩⟩).1.work.key)), .d (.int .i64 ((applyDec ⟨rs, sh, ⟨pk, pf, ps, pb, pr, pt, pe⟩, tn⟩ ⟨dk, ⟨qk, qf, qs, qb, qr, qt, qe⟩⟩).1.work.src)), .d (.int .i64 ((applyDec ⟨rs, sh, ⟨pk, pf, ps, pb, pr, pt, pe⟩, tn⟩ ⟨dk, ⟨qk, qf, qs, qb, qr, qt, qe⟩⟩).1.work.dst)), .d (.int .i64 ((applyDec ⟨rs, sh, ⟨pk, pf, ps, pb, pr, pt, pe⟩, tn⟩ ⟨dk, ⟨qk, qf, qs, qb, qr, qt, qe⟩⟩).1.work.step)), .d (.int .i64 ((applyDec ⟨rs, sh, ⟨pk, pf, ps, pb, pr, pt, pe⟩, tn⟩ ⟨dk, ⟨qk, qf, qs, qb, qr, qt, qe⟩⟩).1.turn))], .d (.bool ((applyDec ⟨rs, sh, ⟨pk, pf, ps, pb, pr, pt, pe⟩, tn⟩ ⟨dk, ⟨qk, qf, qs, qb, qr, qt, qe⟩⟩).2))]) [.ar 3 0 ((applyDec ⟨rs, sh, ⟨pk, pf, ps, pb, pr, pt, pe⟩, tn⟩ ⟨dk, ⟨qk, qf, qs, qb, qr, qt, qe⟩⟩).1.routes.map Route.pv)] := spec_of_run tt_ok mixed (spec_ApplyDecision_C_Γ 0) Try.func8 (by kernel_rfl) (mem := []) (Nat.le_of_ble_eq_true (by kernel_rfl)) (spec_ApplyDecision_C_Λ 0) ((spec_ApplyDecision_run 0 (rs.map Route.pv) sh pk pf ps pb pr pt pe tn dk qk qf qs qb qr qt qe _).trans ((spec_ApplyDecision_ceq 0 sh pk pf ps pb pr pt pe tn dk qk qf qs qb qr qt qe rs _ hp1).trans (by simp only [br, hb0])))
      have hs := hs.wd 3 (Nat.le_of_ble_eq_true (by kernel_rfl))
      rw [Option.some.inj hw] at hs
      exact hs
    | false =>
      simp only [br, hb0] at hw
      have hs : Spec Try.prog 8 _ [] (.tup [.agg [.nil, .d (.int .i64 0), .d (.int .i64 0), .d (.int .i64 0), .d (.int .i64 0), .d (.str ⟨#[]⟩), .d (.int .i64 0), .d (.int .i64 0), .d (.int .i64 0), .d (.int .i64 0)], .d (.bool false)]) [] := spec_of_run tt_ok mixed (spec_ApplyDecision_C_Γ 0) Try.func8 (by kernel_rfl) (mem := []) (Nat.le_of_ble_eq_true (by kernel_rfl)) (spec_ApplyDecision_C_Λ 0) ((spec_ApplyDecision_run 0 (rs.map Route.pv) sh pk pf ps pb pr pt pe tn dk qk qf qs qb qr qt qe _).trans ((spec_ApplyDecision_ceq 0 sh pk pf ps pb pr pt pe tn dk qk qf qs qb qr qt qe rs _ hp1).trans (by simp only [br, hb0])))
      have hs := hs.wd 3 (Nat.le_of_ble_eq_true (by kernel_rfl))
      rw [Option.some.inj hw] at hs
      exact hs
  · cases h

def Γ_spec_ApplyDecision : FuncId → Option Smr := Γc 8 spec_ApplyDecision_sm Γ_impl_ApplyDecision
theorem Γ_spec_ApplyDecision_ok : ∀ f s, Γ_spec_ApplyDecision f = some s → SmrOK Try.prog f s := Γc_ok spec_ApplyDecision_ok Γ_impl_ApplyDecision_ok

end Go.Proofs.Ytfeiaibdnnhlaaa
