/- The engine, part 25: a function comes to what its code comes to. -/
import Derived.Test.YtoojhjhamhkmjaaLE24
set_option linter.unusedVariables false
set_option linter.unusedSimpArgs false
namespace Go.Eng
section
variable {P : Program} {keep : Bool} {nm : List Nat} {N : Nat} {r : Rho} {s : PS} {a : Act} {w : World}

theorem rvK_one : ∀ (rvs : List RV) {K : List Value → Prop}, rvK P s rvs K → ∃ vs, K vs ∧ rvK P s rvs (· = vs) := by
  intro rvs
  induction rvs with
  | nil => intro K h; exact ⟨[], h, rfl⟩
  | cons x l ih =>
    intro K h
    have mono : ∀ {K K' : List Value → Prop} {l : List RV}, rvK P s l K → (∀ vs, K vs → K' vs) → rvK P s l K' := by
      intro K K' l
      induction l generalizing K K' with
      | nil => intro h k; exact k _ h
      | cons x l ih =>
        intro h k
        cases x with
        | v x => obtain ⟨v, h1, h⟩ := vK_inv h; simp only [rvK, vK, h1]; exact ih h fun vs q => k _ q
        | c x u =>
          obtain ⟨v, h1, h⟩ := vK_inv h
          obtain ⟨⟨v2, B⟩, h2, h⟩ := rK_inv h
          simp only [rvK, vK, h1, rK, h2]
          cases B <;> exact ih h fun vs q => k _ q
    cases x with
    | v x =>
      obtain ⟨v, h1, h⟩ := vK_inv h
      obtain ⟨vs, k1, k2⟩ := ih h
      refine ⟨v :: vs, k1, ?_⟩
      simp only [rvK, vK, h1]
      exact mono k2 fun vs' e => by rw [e]
    | c x u =>
      obtain ⟨v, h1, h⟩ := vK_inv h
      obtain ⟨⟨v2, B⟩, h2, h⟩ := rK_inv h
      have h' : rvK P s l fun vs => K (v2 :: vs) := by cases B <;> exact h
      obtain ⟨vs, k1, k2⟩ := ih h'
      refine ⟨v2 :: vs, k1, ?_⟩
      simp only [rvK, vK, h1, rK, h2]
      cases B <;> exact mono k2 fun vs' e => by rw [e]

theorem SP.at (hs : SP P nm N r s a w) {t : Nat} {v : Value} (h : Go.Eng.rx s.e s.l (if nm.contains t then .n t else .t t) = some v) : ∃ v', a.tmps[t]? = some v' ∧ VR r v v' := by
  split at h
  · exact hs.e t v h
  · exact hs.l t v h

theorem rvs_ok (hs : SP P nm N r s a w) : ∀ {l : List ResultVar} {rvs : List RV} {vs : List Value}, resRVs P nm l = some rvs → rvK P s rvs (· = vs) →
    ∃ vs', (l.mapM (resF a.tmps)).run P w = .ok vs' w ∧ VL r vs vs' := by
  intro l
  induction l with
  | nil => intro rvs vs h hk; cases h; cases hk; exact ⟨[], rfl, .nil r⟩
  | cons x l ih =>
    intro rvs vs h hk
    simp only [resRVs] at h
    split at h
    case h_2 => cases h
    case h_1 y ys hy hys =>
      cases h
      cases x with
      | tmp t =>
        cases hy
        obtain ⟨v, h1, hk⟩ := vK_inv hk
        obtain ⟨vs1, k1, k2⟩ := rvK_one _ hk
        subst k1
        obtain ⟨v', e1, e2⟩ := hs.at h1
        obtain ⟨vs', e3, e4⟩ := ih hys k2
        refine ⟨v' :: vs', ?_, .cons e2 e4⟩
        have k4 : (resF a.tmps (.tmp t)).run P w = .ok v' w := by simp [resF, e1]
        simp only [List.mapM_cons, Sem.run_bind, k4, Sem.run_pure, Result.andThen_ok, e3]
      | cell t ty =>
        have main : ∀ {u : U} {ys : List RV} {vs : List Value}, (∀ p res, uval P s.h s.h.length u p = some res → rload P s.h ty p = some res) → rvK P s (.c (if nm.contains t then .n t else .t t) u :: ys) (· = vs) → resRVs P nm l = some ys →
            ∃ vs', ((ResultVar.cell t ty :: l).mapM (resF a.tmps)).run P w = .ok vs' w ∧ VL r vs vs' := by
          intro u ys vs hu hk hys
          obtain ⟨p, h1, hk⟩ := vK_inv hk
          obtain ⟨⟨v, B⟩, h2, hk⟩ := rK_inv hk
          have hk' : rvK P s ys fun q => v :: q = vs := by cases B <;> exact hk
          obtain ⟨vs1, k1, k2⟩ := rvK_one _ hk'
          subst k1
          have e1 := hu _ _ h2
          obtain ⟨u', e2, e3⟩ := hs.at h1
          obtain ⟨vs', e4, e5⟩ := ih hys k2
          obtain ⟨_, x', q1, q2⟩ := rload_ok2 hs.hr e3 e1
          have hpt : ∃ ad, u' = .pointer (some ad) := by
            unfold rload at e1
            split at e1
            · obtain ⟨x, _, _, rfl⟩ := e3.ptr_inv; exact ⟨_, rfl⟩
            · cases e1
          obtain ⟨ad, rfl⟩ := hpt
          refine ⟨x' :: vs', ?_, .cons q2 e5⟩
          have hg : a.tmps.getD t undef = .pointer (some ad) := by simp [e2]
          have k3 : (loadVar ty ad).run P w = .ok x' w := by simpa [Instr.loadAt, Instr.sureAddr] using q1
          have k4 : (resF a.tmps (.cell t ty)).run P w = .ok x' w := by show (do loadVar ty (← asAddr (a.tmps.getD t undef)) : Sem Value).run P w = _; rw [hg]; simp [asAddr, k3]
          simp only [List.mapM_cons, Sem.run_bind, k4, Result.andThen_ok, e4, Sem.run_pure]
        simp only [resRV] at hy
        split at hy
        · rename_i ha
          obtain ⟨n, h1, rfl⟩ := Option.map_eq_some_iff.1 hy
          exact main (fun p res hu => rload_ldn ha h1 hu) hk hys
        · rename_i ha
          cases hy
          exact main (fun p res hu => rload_ld ha hu) hk hys
        · cases hy

theorem rtup_ok (hs : SP P nm N r s a w) {fn : Func} {rvs : List RV} {vs : List Value} (hr : resRVs P nm fn.results.toList = some rvs) (hk : rvK P s rvs (· = vs)) :
    ∃ v', (results fn a.tmps).run P w = .ok v' w ∧ VR r (tup vs) v' := by
  obtain ⟨vs', h1, h2⟩ := rvs_ok hs hr hk
  have hm : (fn.results.mapM (resF a.tmps)).run P w = .ok vs'.toArray w := by
    rw [Array.mapM_eq_mapM_toList]
    simp only [Sem.run_map, h1, Result.andThen_ok]
  rw [results_eq, Sem.run_bind]
  unfold tup
  cases vs' with
  | nil =>
    cases vs with
    | nil => exact ⟨.tuple #[], by rw [hm]; simp, VR.tuple_l (.nil r)⟩
    | cons => have := h2.1; simp at this
  | cons v' l' =>
    cases vs with
    | nil => have := h2.1; simp at this
    | cons v l =>
      cases l' with
      | nil =>
        cases l with
        | nil => exact ⟨v', by rw [hm]; simp, h2.2 0 v v' rfl rfl⟩
        | cons => have := h2.1; simp at this
      | cons v2' l2' =>
        cases l with
        | nil => have := h2.1; simp at this
        | cons v2 l2 => exact ⟨.tuple (v' :: v2' :: l2').toArray, by rw [hm]; simp, VR.tuple_l (by simpa using h2)⟩

def argE (k : Nat) : List Value → PE
  | [] => []
  | v :: l => (k, v) :: argE (k + 1) l

theorem look_argE : ∀ (l : List Value) (k t : Nat) (v : Value), look (argE k l) t = some v → k ≤ t ∧ l[t - k]? = some v := by
  intro l
  induction l with
  | nil => intro k t v h; cases h
  | cons x l ih =>
    intro k t v h
    simp only [argE, look] at h
    split at h
    · rename_i e; subst e; cases h; exact ⟨Nat.le_refl _, by simp⟩
    · rename_i e
      obtain ⟨h1, h2⟩ := ih (k + 1) t v h
      refine ⟨by omega, ?_⟩
      have : t - k = (t - (k + 1)) + 1 := by omega
      rw [this]; simpa using h2

theorem start_sp {args : List Value} {args' : Array Value} {h : AH} (hr : HR P r h w.heap) (hargs : VL r args args'.toList) (hnm : ((List.range args.length).all nm.contains) = true) :
    SP P nm N r ⟨argE 0 args, [], h, []⟩ { tmps := args' ++ Array.replicate (N - args'.size) undef, defers := [] } w := by
  refine ⟨fun t v hv => ?_, fun t v hv => ?_, fun t v hv => ?_, fun t v hv => ?_, by simp; omega, hr, trivial⟩
  · obtain ⟨_, h1⟩ := look_argE _ _ _ _ hv
    have hh := start_env (P := P) (h := h) (w := w) hargs N t v (by
      rw [List.getElem?_append_left]
      · simpa using h1
      · have := (List.getElem?_eq_some_iff.1 h1).1; simpa using this)
    exact hh
  · cases hv
  · obtain ⟨_, h1⟩ := look_argE _ _ _ _ hv
    have := (List.getElem?_eq_some_iff.1 h1).1
    exact List.all_eq_true.1 hnm t (by simp; omega)
  · cases hv

/-- A function without deferred calls. -/
theorem Gets.fn (hP : noGoroutines P = true) {f : FuncId} {fn : Func} {c : Code} (hf : P.funcs[f]? = some fn) (hb : fn.body = some c) {D : Array Oper → Bool} (hD : DrawOk P keep nm fn.ntmps D) {rc : RC} (hc : resC P nm fn.ntmps D c = some rc)
    {rvs : List RV} (hr : resRVs P nm fn.results.toList = some rvs) {args : List Value} (hnm : ((List.range args.length).all nm.contains) = true) {h : AH} {Φ : Res → AH → Prop}
    (hw : wpc P keep nm rc (finK P rvs Φ) ⟨argE 0 args, [], h, []⟩) : Gets P f args h Φ := by
  obtain ⟨out, s', k1, k2, k3⟩ := wpc_one rc _ _ hw
  have norm : ∀ {vs : List Value}, (out = .norm ∨ out = .ret) → s'.ds = [] → rvK P s' rvs (· = vs) → Holds P f args h (.ret (tup vs)) s'.h := by
    intro vs ho hds hk r w args' hr' ha o a K Q hK hQ
    rw [run_callFunc hP hf hb]
    refine calls_of_wp hf hb ?_
    refine wpc_ok hD c hc (fun o' t => o' = out ∧ t = s') r _ _ w (start_sp (N := fn.ntmps) hr' ha hnm) (k3 _ ⟨rfl, rfl⟩) _ (fun o' t hp ex a' w' r' hoe st sr => ?_)
    obtain ⟨rfl, rfl⟩ := hp
    obtain ⟨v', e1, e2⟩ := rtup_ok sr hr hk
    have hdd := (show DR r' [] a'.defers from hds ▸ sr.ds).nil_inv
    rcases ho with rfl | rfl
    · cases hoe; exact ⟨hdd, v', e1, hK _ _ _ _ rfl st e2⟩
    · cases hoe; exact ⟨hdd, v', e1, hK _ _ _ _ rfl st e2⟩
  cases out with
  | norm =>
    obtain ⟨hds, hk⟩ := k1
    obtain ⟨vs, q1, q2⟩ := rvK_one _ hk
    exact ⟨_, _, norm (.inl rfl) hds q2, k2, q1⟩
  | ret =>
    obtain ⟨hds, hk⟩ := k1
    obtain ⟨vs, q1, q2⟩ := rvK_one _ hk
    exact ⟨_, _, norm (.inr rfl) hds q2, k2, q1⟩
  | exit id => exact k1.elim
  | pan v =>
    obtain ⟨hds, hk⟩ := k1
    refine ⟨.pan v, s'.h, ?_, k2, hk⟩
    intro r w args' hr' ha o a K Q hK hQ
    rw [run_callFunc hP hf hb]
    refine calls_of_wp hf hb ?_
    refine wpc_ok hD c hc (fun o' t => o' = .pan v ∧ t = s') r _ _ w (start_sp (N := fn.ntmps) hr' ha hnm) (k3 _ ⟨rfl, rfl⟩) _ (fun o' t hp ex a' w' r' hoe st sr => ?_)
    obtain ⟨rfl, rfl⟩ := hp
    obtain ⟨v', rfl, hv⟩ := hoe
    have hdd := (show DR r' [] a'.defers from hds ▸ sr.ds).nil_inv
    exact ⟨hdd, hQ _ _ _ _ rfl st hv⟩

end
end Go.Eng
