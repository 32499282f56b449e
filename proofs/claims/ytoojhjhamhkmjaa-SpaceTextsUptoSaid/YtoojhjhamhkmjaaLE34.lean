/- The engine, part 34: the door: a law of arguments that are read. -/
import Derived.Test.YtoojhjhamhkmjaaLE33
import Derived.Carry
import Derived.OpenShut
set_option linter.unusedVariables false
set_option linter.unusedSimpArgs false
namespace Go.Eng
open Go.RowKit Go.ChangeShapes

section
variable {H : Type} {enc : TypeId × Value → H} {P : Program} {W : World}

def isAg (P : Program) (t : TypeId) : Bool := match P.underlying t with
  | some (.struct _) => true
  | some (.array _ _) => true
  | _ => false

/-- An argument and what it holds. -/
def RdA (P : Program) (h : AH) (t : TypeId) (v : Value) (d : DataW H) : Prop :=
  if isAg P t then ∃ cs, v = .agg cs.toArray ∧ Rd' P h t cs d else Rd' P h t [v] d

theorem RdA.ext {h : AH} {t : TypeId} {v : Value} {d : DataW H} (hr : RdA P h t v d) (x : AH) : RdA P (h ++ x) t v d := by
  unfold RdA at hr ⊢
  split
  · rename_i hh; rw [if_pos hh] at hr; obtain ⟨cs, h1, h2⟩ := hr; exact ⟨cs, h1, h2.ext x⟩
  · rename_i hh; rw [if_neg hh] at hr; exact hr.ext x

theorem scalar_cells {t : TypeId} {v : Value} {d : DataW H} {fuel n : Nat} {ps : List MemPlace} (hp : plainT P n t = true) (ha : isAg P t = false) {b : Nat} (hok : Value.okWide P W .any b t v) (h : DataW.trod enc P W 0 (fun _ => true) true fuel t v.cells.toList = some (d, ps)) : v.cells = #[v] := by
  cases v <;> try rfl
  exfalso
  cases n with
  | zero => simp [plainT] at hp
  | succ n =>
    cases hu : P.underlying t with
    | none => simp [plainT, hu] at hp
    | some u =>
      simp only [plainT, hu] at hp
      simp only [isAg, hu] at ha
      simp only [Value.okWide, hu] at hok
      cases u <;> simp only at hp ha hok <;> try (cases hp; done)
      all_goals first
        | (cases ha; done)
        | (simp [Cell.okWide, Cell.ok, hu] at hok; done)

theorem opens_args : ∀ (ts : List TypeId) (vs : List Value) (ds : List (DataW H)) (ps : List MemPlace), (∀ t ∈ ts, plainT P 20 t = true) → DataW.TrodAll enc P W 0 (fun _ => true) true ts vs ds ps →
    (∀ (j : Nat) (t : TypeId) (v : Value), ts[j]? = some t → vs[j]? = some v → ∃ b, Value.okWide P W .any b t v) → ∀ h r, Dr P W h r →
    ∃ (h' : AH) (r' : Rho) (avs : List Value), Ex P W h r h' r' ∧ VL r' avs vs ∧ avs.length = ts.length ∧ ds.length = ts.length ∧ ∀ (i : Nat) (t : TypeId) (v : Value) (d : DataW H), ts[i]? = some t → avs[i]? = some v → ds[i]? = some d → RdA P h' t v d := by
  intro ts
  induction ts with
  | nil =>
    intro vs ds ps _ h _ hh r dr
    cases vs <;> cases ds <;> first | (exact h.elim) | skip
    exact ⟨hh, r, [], .refl dr, .nil r, rfl, rfl, fun i t v d ht => by simp at ht⟩
  | cons t ts ih =>
    intro vs ds ps hp h hok hh r dr
    cases vs with
    | nil => exact h.elim
    | cons v vs =>
      cases ds with
      | nil => exact h.elim
      | cons d ds =>
        obtain ⟨p, q, h1, h2, _⟩ := h
        obtain ⟨fuel, h1⟩ := h1
        have hpt := hp t List.mem_cons_self
        obtain ⟨h', r', acs, e1, e2, e3⟩ := opens fuel 20 t v.cells.toList d p hpt h1 hh r dr
        obtain ⟨bb, hokv⟩ := hok 0 t v rfl rfl
        have hone : ∃ av, VR r' av v ∧ RdA P h' t av d := by
          cases ha : isAg P t with
          | true =>
            have hv : ∃ cs, v = .agg cs := by
              unfold isAg at ha
              unfold Value.okWide at hokv
              split at ha
              · rename_i hu; rw [hu] at hokv; obtain ⟨cs, h, _⟩ := hokv; exact ⟨cs, h⟩
              · rename_i hu; rw [hu] at hokv; obtain ⟨cs, h, _⟩ := hokv; exact ⟨cs, h⟩
              · cases ha
            obtain ⟨cs, rfl⟩ := hv
            refine ⟨.agg acs.toArray, ?_, by unfold RdA; rw [if_pos ha]; exact ⟨acs, rfl, e3⟩⟩
            exact VR.agg (by have := e2.1; simpa [Value.cells] using this) (fun i a b h1 h2 => e2.2 i a b (by simpa using h1) (by simpa [Value.cells] using h2))
          | false =>
            have hc := scalar_cells (enc := enc) hpt ha hokv h1
            rw [hc] at e2
            have hlen := e2.1
            simp at hlen
            cases acs with
            | nil => simp at hlen
            | cons a acs =>
              have : acs = [] := by simpa using hlen
              subst this
              exact ⟨a, e2.2 0 a v rfl rfl, by unfold RdA; rw [if_neg (by rw [ha]; simp)]; exact e3⟩
        obtain ⟨av, k1, k2⟩ := hone
        obtain ⟨h2', r2, avs, f1, f2, f3, f4, f5⟩ := ih vs ds q (fun t ht => hp t (List.mem_cons_of_mem _ ht)) h2 (fun j t v a b => hok (j + 1) t v (by simpa using a) (by simpa using b)) h' r' e1.1
        refine ⟨h2', r2, av :: avs, e1.trans f1, .cons (k1.mono f1.2.1) f2, by simp [f3], by simp [f4], fun i t' v' d' a b c => ?_⟩
        cases i with
        | zero =>
          simp at a b c; subst a; subst b; subst c
          obtain ⟨_, _, x, rfl⟩ := f1
          exact k2.ext x
        | succ i => exact f5 i t' v' d' (by simpa using a) (by simpa using b) (by simpa using c)

theorem Dr.empty : Dr P W [] (fun _ => none) := ⟨HR.empty P W.heap, fun b B h => by simp at h⟩

/-- A law that holds of abstract arguments holds of the model's. -/
theorem Gets.law (hP : noGoroutines P = true) {f : FuncId} {fn : Func} (hf : P.funcs[f]? = some fn) (hb : fn.body.isSome = true) {h : AH} {r : Rho} {avs : List Value} {args : Array Value} (hg : Gets P f avs h fun res _ => res = .ret (.bool true)) (hd : Dr P W h r) (hv : VL r avs args.toList) :
    Calls P f args W fun e W' => e = .returned (.bool true) ∧ Below W.heap.size W W' := by
  obtain ⟨res, h', h1, h2, rfl⟩ := hg
  obtain ⟨c, hc⟩ := Option.isSome_iff_exists.mp hb
  refine Calls.mono (Holds.calls hP hf hc h1 hd.hr hv) fun e w' he => ?_
  obtain ⟨v', r', rfl, st, hvr⟩ := he
  exact ⟨by rw [hvr.bool_inv], st.below' hd.ro⟩

/-- Arguments read behind a call that lays new blocks alone as they did. -/
theorem trodAll_below (hl : laidOutB P = true) {W' : World} (hb : Below W.heap.size W W') : ∀ (ts : List TypeId) (vs : List Value) (ds : List (DataW H)) (ps : List MemPlace), (∀ t ∈ ts, P.readableRec t = true ∧ t < P.types.size) →
    DataW.TrodAll enc P W 0 (fun _ => true) true ts vs ds ps → (∀ x ∈ ps, x.block < W.heap.size) → DataW.TrodAll enc P W' 0 (fun b => decide (b < W.heap.size)) true ts vs ds ps := by
  intro ts
  induction ts with
  | nil =>
    intro vs ds ps _ h _
    cases vs <;> cases ds <;> first | (exact h.elim) | exact h
  | cons t ts ih =>
    intro vs ds ps hr h hlt
    cases vs with
    | nil => exact h.elim
    | cons v vs =>
      cases ds with
      | nil => exact h.elim
      | cons d ds =>
        obtain ⟨p, q, h1, h2, rfl⟩ := h
        have := hr t List.mem_cons_self
        exact ⟨p, q, Below.trod hl this.1 this.2 h1 hb (fun x hx => hlt x (List.mem_append_left _ hx)), ih vs ds q (fun t ht => hr t (List.mem_cons_of_mem _ ht)) h2 (fun x hx => hlt x (List.mem_append_right _ hx)), rfl⟩

end
end Go.Eng
