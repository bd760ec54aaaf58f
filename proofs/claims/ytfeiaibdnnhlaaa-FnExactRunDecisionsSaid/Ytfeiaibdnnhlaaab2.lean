import Derived.Test.Ytfeiaibdnnhlaaab1
import Derived.Carry
import Derived.WalkKit
import Derived.ProofKit
import Derived.OpenShut
import Derived.SizedLaws
/- From a contract to what a row says. -/
set_option linter.unusedSectionVars false
set_option linter.unusedVariables false
set_option linter.unusedSimpArgs false
namespace Go.Proofs.Ytfeiaibdnnhlaaa

def ShArgs : List Ty → List AV → Prop
  | [], as => as = []
  | .st Ts :: r, as => ∃ ps l, as = .agg (ps.map .d) :: l ∧ ShL Ts ps ∧ ShArgs r l
  | T :: r, as => ∃ p l, as = .d p :: l ∧ Sh T [p] ∧ ShArgs r l

/-- The ghost at a row's call: all memory may be read, nothing is owned. -/
def gh0 (W : World) : Gh := ⟨fun _ => .ro, fun _ => none, fun _ => 0, fun q => q < W.heap.size⟩

theorem mem0 (W : World) : Mem W (gh0 W) [] := ⟨⟨fun q hq => ⟨rfl, hq⟩, fun _ _ => rfl, fun q b l h => by cases h⟩, fun b => by
  have : lk [] b = .fut := rfl
  rw [this]; trivial⟩

section
variable {H : Type} {enc : TypeId × Value → H} {P : Program} {tt : TypeId → Option TI} (hT : TTok P tt) {W : World}

theorem not_agg {r : Reach} {base : Nat} {t : TypeId} {v : Value} {D : TypeDesc} (hu : P.underlying t = some D) (hD : D = .bool ∨ (∃ k, D = .int k) ∨ D = .string ∨ ∃ e, D = .slice e) (h : Value.okWide P W r base t v) : v.cells = #[v] := by
  cases v with
  | agg cs =>
    exfalso
    unfold Value.okWide at h
    rcases hD with rfl | ⟨k, rfl⟩ | rfl | ⟨e, rfl⟩ <;> simp [hu, Cell.okWide, Cell.ok] at h
  | _ => rfl

include hT in
theorem arg_read {d base : Nat} {t : TypeId} {T : Ty} {v : Value} {x : DataW H} {p : List MemPlace} {held : Bool} {spare : Nat → Bool} (hty : tyOf tt d t = some T) (hv : Value.okWide P W .any base t v)
    (h : DataW.Trod enc P W 0 spare held t v x p) (hw : ∀ y ∈ x.weights P t, y ≤ reachBytes) :
    (∃ Ts ps, T = .st Ts ∧ ShL Ts ps ∧ RA W (gh0 W) [] (.agg (ps.map .d)) v) ∨ ((∀ Ts, T ≠ .st Ts) ∧ ∃ q, Sh T [q] ∧ RA W (gh0 W) [] (.d q) v) := by
  obtain ⟨fuel, hf⟩ := h
  obtain ⟨ps, g1, g2, g3⟩ := data_read hT fuel d t T _ _ hty hf hw
  have single : v.cells = #[v] → ∃ q, ps = [q] ∧ RA W (gh0 W) [] (.d q) v := by
    intro hc
    rw [hc] at g2 g3
    simp at g2
    match ps, g2 with
    | [q], _ =>
      obtain ⟨u, hu, hR⟩ := g3 0 q rfl
      simp at hu; subst hu
      exact ⟨q, rfl, .d q v hR⟩
  cases d with
  | zero => cases hty
  | succ d =>
    simp only [tyOf] at hty
    split at hty
    · cases hty
    · rename_i i hi
      obtain ⟨s1, s2, hu⟩ := tt_size hT hi
      split at hty
      · rename_i hud
        cases hty
        rw [hud] at hu
        obtain ⟨q, rfl, hR⟩ := single (not_agg hu (.inl rfl) hv)
        exact .inr ⟨fun _ => Ty.noConfusion, q, g1, hR⟩
      · rename_i k hud
        cases hty
        rw [hud] at hu
        obtain ⟨q, rfl, hR⟩ := single (not_agg hu (.inr (.inl ⟨k, rfl⟩)) hv)
        exact .inr ⟨fun _ => Ty.noConfusion, q, g1, hR⟩
      · rename_i hud
        cases hty
        rw [hud] at hu
        obtain ⟨q, rfl, hR⟩ := single (not_agg hu (.inr (.inr (.inl rfl))) hv)
        exact .inr ⟨fun _ => Ty.noConfusion, q, g1, hR⟩
      · rename_i e hud
        rw [hud] at hu
        split at hty
        · split at hty
          · cases hty
            obtain ⟨q, rfl, hR⟩ := single (not_agg hu (.inr (.inr (.inr ⟨e, rfl⟩))) hv)
            exact .inr ⟨fun _ => Ty.noConfusion, q, g1, hR⟩
          · cases hty
        · cases hty
      · rename_i fs hud
        rw [hud] at hu
        obtain ⟨Fa, hF, _⟩ := hu
        split at hty
        · split at hty
          · cases hty
            unfold Value.okWide at hv
            rw [hF] at hv
            obtain ⟨cs, rfl, _, _⟩ := hv
            refine .inl ⟨_, ps, rfl, g1, .agg _ _ (by have := g2; simpa [Value.cells] using this) (fun u hu => ?_) (fun i c u hc hu => ?_)⟩
            · obtain ⟨i, hi, rfl⟩ := List.getElem_of_mem hu
              have hlt : i < ps.length := by rw [g2]; exact hi
              obtain ⟨u', hu', hR⟩ := g3 i _ (List.getElem?_eq_getElem hlt)
              have : (Value.agg cs).cells.toList[i]? = some (cs.toList[i]) := List.getElem?_eq_getElem hi
              rw [this] at hu'; cases hu'
              exact hR.oneCell
            · rw [List.getElem?_map] at hc
              cases hp : ps[i]? with
              | none => rw [hp] at hc; cases hc
              | some q =>
                rw [hp] at hc; cases hc
                obtain ⟨u', hu', hR⟩ := g3 i q hp
                have : (Value.agg cs).cells.toList[i]? = some u := by simpa [Value.cells] using hu
                rw [this] at hu'; cases hu'
                exact .d q u hR
          · cases hty
        · cases hty
      · cases hty

def TyArgs (tt : TypeId → Option TI) (d : Nat) : List TypeId → List Ty → Prop
  | [], Ts => Ts = []
  | t :: ts, Ts => ∃ T r, Ts = T :: r ∧ tyOf tt d t = some T ∧ TyArgs tt d ts r

include hT in
theorem args_read {d base : Nat} {held : Bool} {spare : Nat → Bool} : ∀ {ts : List TypeId} {Ts : List Ty} {vs : List Value} {ds : List (DataW H)} {p : List MemPlace}, TyArgs tt d ts Ts →
    (∀ (j : Nat) t v, ts[j]? = some t → vs[j]? = some v → Value.okWide P W .any base t v) → DataW.TrodAll enc P W 0 spare held ts vs ds p → (∀ y ∈ DataW.weightsEach P ts ds, y ≤ reachBytes) →
    ∃ as, ShArgs Ts as ∧ AllRA W (gh0 W) [] as vs
  | [], Ts, [], [], p, hty, hv, h, hw => by
    have : Ts = [] := hty
    subst this
    exact ⟨[], rfl, rfl, fun i c u hc _ => by simp at hc⟩
  | t :: ts, Ts, v :: vs, x :: ds, p, hty, hv, h, hw => by
    obtain ⟨T, r, rfl, h1, h2⟩ := hty
    obtain ⟨p1, q1, h3, h4, _⟩ := h
    simp only [DataW.weightsEach, List.mem_append] at hw
    obtain ⟨as, h5, h6⟩ := args_read h2 (fun j t v a b => hv (j + 1) t v (by simpa using a) (by simpa using b)) h4 (fun y hy => hw y (.inr hy))
    have cons : ∀ {a : AV}, RA W (gh0 W) [] a v → AllRA W (gh0 W) [] (a :: as) (v :: vs) := by
      intro a ha
      refine ⟨by simp [h6.1], fun i c u hc hu => ?_⟩
      cases i with
      | zero => simp at hc hu; subst hc; subst hu; exact ha
      | succ i => exact h6.2 i c u (by simpa using hc) (by simpa using hu)
    rcases arg_read hT h1 (hv 0 t v rfl rfl) h3 (fun y hy => hw y (.inl hy)) with ⟨Ts, ps, rfl, g1, g2⟩ | ⟨hn, q, g1, g2⟩
    · exact ⟨_, ⟨ps, as, rfl, g1, h5⟩, cons g2⟩
    · refine ⟨.d q :: as, ?_, cons g2⟩
      cases T with
      | st Ts => exact absurd rfl (hn Ts)
      | _ => exact ⟨q, as, rfl, g1, h5⟩
  | [], Ts, _ :: _, _, p, hty, hv, h, hw => by cases h
  | [], Ts, [], _ :: _, p, hty, hv, h, hw => by cases h
  | _ :: _, Ts, [], _, p, hty, hv, h, hw => by cases h
  | _ :: _, Ts, _ :: _, [], p, hty, hv, h, hw => by cases h

end

/-- What lies in memory before the call lies there behind it. -/
theorem stays_all {H : Type} {enc : TypeId × Value → H} {P : Program} (hl : laidOutB P = true) {W W' : World} (hb : ∀ k, k < W.heap.size → W'.heap[k]? = W.heap[k]?) :
    ∀ {ts : List TypeId} {vs : List Value} {ds : List (DataW H)} {p : List MemPlace}, (∀ t ∈ ts, P.readableRec t = true ∧ t < P.types.size) → DataW.TrodAll enc P W 0 (fun _ => true) true ts vs ds p →
    DataW.TrodAll enc P W' 0 (fun b => decide (b < W.heap.size)) true ts vs ds p
  | [], [], [], p, _, h => h
  | t :: ts, v :: vs, x :: ds, p, hr, h => by
    obtain ⟨p1, q1, h3, h4, e⟩ := h
    have hlt : ∀ y ∈ p1, y.block < W.heap.size := by obtain ⟨m, hm⟩ := h3; exact DataW.trod_lt m _ _ _ hm
    refine ⟨p1, q1, ?_, stays_all hl hb (fun t ht => hr t (List.mem_cons_of_mem _ ht)) h4, e⟩
    refine WideElems.Trod_stays hl (hr t (List.mem_cons_self ..)).1 (hr t (List.mem_cons_self ..)).2 h3 (fun y hy => ?_) (fun y hy => by simpa using hlt y hy)
    have := hlt y hy
    cases y with
    | cell b o => exact World.cell?_of_block (w := W) (hb b this)
    | map b => exact hb b this
  | [], [], _ :: _, p, _, h => h.elim
  | [], _ :: _, _, p, _, h => by cases h
  | _ :: _, [], _, p, _, h => by cases h
  | _ :: _, _ :: _, [], p, _, h => by cases h

theorem kept_of {W W' : World} (ho : W'.os = W.os) (hu : W'.output = W.output) (hb : ∀ k, k < W.heap.size → W'.heap[k]? = W.heap[k]?) (may : MemPlace → Prop) : W.keptBut W' may := by
  refine ⟨ho, hu, fun i hi => ?_⟩
  rw [hb i hi]
  split <;> simp_all

/-- A contract that tells 'true', as a call from any world. -/
theorem law_calls {P : Program} {f : FuncId} {as : List AV} {W : World} {args : Array Value} (hA : AllRA W (gh0 W) [] as args.toList) {mem1 : List AB} (hs : Spec P f as [] (.d (.bool true)) mem1) :
    Calls P f args W fun e W' => e = .returned (.bool true) ∧ W'.os = W.os ∧ W'.output = W.output ∧ ∀ k, k < W.heap.size → W'.heap[k]? = W.heap[k]? := by
  have := hs.2 W (gh0 W) args.toList (mem0 W) hA
  rw [show args.toList.toArray = args by simp] at this
  refine this.mono ?_
  rintro e W' ⟨v, g', rfl, _, hR, hF⟩
  cases hR with
  | d _ _ h =>
    cases h
    exact ⟨rfl, hF.os, hF.out, fun k hk => (hF.ro k hk rfl).1⟩

end Go.Proofs.Ytfeiaibdnnhlaaa
