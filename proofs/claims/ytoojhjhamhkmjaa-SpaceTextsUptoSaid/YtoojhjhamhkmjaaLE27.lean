/- The engine, part 27: regions that draw their order, looked up ahead. -/
import Derived.Test.YtoojhjhamhkmjaaLE25
set_option linter.unusedVariables false
set_option linter.unusedSimpArgs false
namespace Go.Eng

/-! ### What is not looked at may be anything -/

/-- Temporaries that are the same in both. -/
structure Ag (K0 : Nat → Prop) (ops : Array Oper) (listed : Array Bool) (a0 a b : Act) : Prop where
  sz : a.tmps.size = b.tmps.size
  s0 : a.tmps.size = a0.tmps.size
  df : a.defers = b.defers
  ag : ∀ t, (K0 t ∨ ∃ (i : Nat) (o : Oper), ops[i]? = some o ∧ listed.getD i false = true ∧ o.dst = some t) → a.tmps[t]? = b.tmps[t]?
  out : ∀ t, (∀ (i : Nat) (o : Oper), ops[i]? = some o → o.dst ≠ some t) → a.tmps[t]? = a0.tmps[t]?
  cl : Closed ops (fun i => listed.getD i false)
  ls : listed.size = ops.size

theorem upon_ag {P : Program} {o : Oper} {a b : Act} {K K' : Act → World → Prop} {Q Q' : Exit → Act → World → Prop} {x : Result Next}
    (hK : ∀ v w, K' (b.put o.dst v) w → K (a.put o.dst v) w) (hD : ∀ d w, K' ({ b with defers := d :: b.defers }.put o.dst undef) w → K ({ a with defers := d :: a.defers }.put o.dst undef) w)
    (hQ : ∀ c w, Q' (.panic c) b w → Q (.panic c) a w) (hL : LetsOut Q' → LetsOut Q) (h : o.upon P b K' Q' x) : o.upon P a K Q x := by
  cases x with
  | ok n w =>
    cases n <;> simp only [Oper.upon] at h ⊢ <;> first | exact hK _ _ h | exact hD _ _ h | exact h.elim | skip
    case enter f args =>
      refine Calls.mono h fun e w' he => ?_
      cases e with
      | returned v => exact hK _ _ he
      | panicked c => exact hQ _ _ he
      | outgrown => exact hL he
    case row r args => exact Rows.mono h fun v w' he => hK _ _ he
  | halt hh w =>
    cases hh <;> simp only [Oper.upon] at h ⊢ <;> first | exact hQ _ _ h | exact h.elim

theorem region_frame {P : Program} {ops : Array Oper} (ht : tempsOk ops ops.toList (ancs ops.toList) = true) (hsel : ∀ (i : Nat) (o : Oper), ops[i]? = some o → ∀ cs b, o.op ≠ .select cs b) {K0 : Nat → Prop}
    (hneed : ∀ (i : Nat) (o : Oper) (t : Nat), ops[i]? = some o → t ∈ o.looksAt ops → K0 t ∨ ∃ (j : Nat) (oj : Oper), j < i ∧ ops[j]? = some oj ∧ oj.dst = some t) {a0 : Act} {Q Q' : Exit → Act → World → Prop} (hL : ¬ LetsOut Q')
    (hQ : ∀ (ex : Exit) (a b : Act) (w : World) (listed : Array Bool), Ag K0 ops listed a0 a b → (ex = .normal → Region.ready .any ops listed = []) → Q' ex b w → Q ex a w) :
    ∀ (fuel : Nat) (listed : Array Bool) (a b : Act) (w : World), Ag K0 ops listed a0 a b → wpAny P .any ops Q' fuel listed b w → wpAny P .any ops Q fuel listed a w := by
  intro fuel
  induction fuel with
  | zero => intro listed a b w hag h; exact ⟨h.1, hQ _ a b w listed hag (fun _ => h.1) h.2⟩
  | succ fuel ih =>
    intro listed a b w hag h
    refine ⟨fun hr => hQ _ a b w listed hag (fun _ => hr) (h.1 hr), fun i hi => ?_⟩
    have hop := h.2 i hi
    obtain ⟨h1, o, ho, hdeps⟩ := mem_ready.1 hi
    have hisz : i < ops.size := (Array.getElem?_eq_some_iff.1 ho).1
    have hl : ops.toList[i]? = some o := by simpa using ho
    have hancL : ∀ j, bit (ancs ops.toList) i j = true → listed.getD j false = true := hag.cl.anc ho (fun e he hb => hdeps e he hb)
    -- what is looked at is the same in both
    have look : ∀ t, t ∈ o.looksAt ops → a.tmps[t]? = b.tmps[t]? := by
      intro t htl
      refine hag.ag t ?_
      rcases hneed i o t ho htl with h2 | ⟨j, oj, hji, hoj, hd⟩
      · exact .inl h2
      · refine .inr ⟨j, oj, hoj, hancL j ?_, hd⟩
        have := ((temps_spec ht hl).2 j oj t (by simpa using hoj) (by omega) hd).2 htl
        rw [if_pos hji] at this; exact this
    have hls : ∀ j, listed.getD j false = true → (listed.setIfInBounds i true).getD j false = true := by
      intro j hj
      by_cases e : i = j
      · subst e; have : i < listed.size := by rw [hag.ls]; exact hisz
        simp [Array.getD, this]
      · simp only [Array.getD_eq_getD_getElem?, Array.getElem?_setIfInBounds_ne e] at hj ⊢; exact hj
    have hls' : ∀ j, j ≠ i → (listed.setIfInBounds i true).getD j false = true → listed.getD j false = true := by
      intro j e hj
      simp only [Array.getD_eq_getD_getElem?, Array.getElem?_setIfInBounds_ne (Ne.symm e)] at hj ⊢; exact hj
    have step : ∀ (v : Value) (dd : Option Deferred), Ag K0 ops (listed.setIfInBounds i true) a0 (({ a with defers := dd.toList ++ a.defers } : Act).put o.dst v) (({ b with defers := dd.toList ++ b.defers } : Act).put o.dst v) := by
      intro v dd
      refine ⟨?_, ?_, ?_, fun t htt => ?_, fun t htt => ?_, fun i' o' ho' hL' e he hb => ?_, by simp [hag.ls]⟩
      · cases o.dst with
        | none => exact hag.sz
        | some d => simp only [Act.put, Array.size_setIfInBounds]; exact hag.sz
      · cases o.dst with
        | none => exact hag.s0
        | some d => simp only [Act.put, Array.size_setIfInBounds]; exact hag.s0
      · rw [put_defers, put_defers]; simp only [hag.df]
      · have old : o.dst ≠ some t → a.tmps[t]? = b.tmps[t]? := by
          intro hne
          refine hag.ag t ?_
          rcases htt with h2 | ⟨j, oj, hoj, hlj, hd⟩
          · exact .inl h2
          · refine .inr ⟨j, oj, hoj, hls' j (fun e => ?_) hlj, hd⟩
            subst e; rw [ho] at hoj; cases hoj; exact hne hd
        cases hd : o.dst with
        | none => simp only [Act.put]; exact old (by rw [hd]; simp)
        | some d =>
          simp only [Act.put]
          by_cases e : d = t
          · subst e
            simp only [Array.getElem?_setIfInBounds, if_true, hag.sz]
          · rw [Array.getElem?_setIfInBounds_ne e, Array.getElem?_setIfInBounds_ne e]
            exact old (by rw [hd]; simpa using e)
      · have h2 := htt i o ho
        cases hd : o.dst with
        | none => simp only [Act.put]; exact hag.out t htt
        | some d =>
          simp only [Act.put]
          rw [Array.getElem?_setIfInBounds_ne (by rintro rfl; exact h2 hd)]
          exact hag.out t htt
      · by_cases e2 : i' = i
        · subst e2; rw [ho] at ho'; cases ho'; exact hls _ (hdeps e he hb)
        · exact hls _ (hag.cl i' o' ho' (hls' i' e2 hL') e he hb)
    unfold wpOp at hop ⊢
    rw [ho] at hop ⊢
    simp only at hop ⊢
    have hw : Region.wanted o (yielded ops a.tmps) = Region.wanted o (yielded ops b.tmps) := by
      unfold Region.wanted
      cases hg : o.guard with
      | none => rfl
      | some p =>
        obtain ⟨j, want⟩ := p
        simp only
        unfold yielded
        cases hd : (ops[j]?).bind (·.dst) with
        | none => rfl
        | some d =>
          have : a.tmps[d]? = b.tmps[d]? := look d (by simp [Oper.looksAt, hg, hd])
          simp only [Option.bind_some, this]
    rw [hw]
    split at hop
    · rename_i hwt
      rw [if_pos hwt]
      refine .inl ?_
      have hwp : o.wp P b w (wpAny P .any ops Q' fuel (listed.setIfInBounds i true)) Q' := by
        rcases hop with h2 | ⟨_, h2⟩
        · exact h2
        · exact absurd h2 hL
      unfold Oper.wp at hwp ⊢
      have hex : execOp a.eval o = execOp b.eval o := by
        refine execOp_congr o (hsel i o ho) fun x hx => ?_
        cases x with
        | tmp t =>
          have := look t (by simp only [Oper.looksAt, List.mem_append, List.mem_filterMap]; exact .inl ⟨.tmp t, by simpa using hx, rfl⟩)
          simp [Act.eval, this]
        | const v => rfl
        | global g => rfl
        | func f => rfl
      rw [hex]
      exact upon_ag (fun v w' hk => ih _ _ _ _ (step v none) hk) (fun d w' hk => ih _ _ _ _ (step undef (some d)) hk) (fun c w' hq => hQ _ a b w' listed hag (fun e => by cases e) hq) (fun h2 => absurd h2 hL) hwp
    · rename_i hwt
      rw [if_neg hwt]
      exact ih _ _ _ _ (step undef none) hop

/-! ### The run in the order of the text -/

section
variable {P : Program} {keep : Bool} {ops : Array Oper} {F : FT}

/-- A load and what it read: it reads the same wherever its cells are the same. -/
def Same1 (P : Program) (env : List Value) (o : Oper) (f : U) (p v : Value) : Prop := ∀ h2 m m', uval P h2 m f p = some (v, none) → aread P (ev env) h2 m' o = some (v, none)

inductive Run (P : Program) (keep : Bool) (ops : Array Oper) (F : FT) : Nat → List DO → List Oper → List Value → AH → List (Nat × AH) → List Rd → List TR → Fin' → Prop where
  | nil (n : Nat) (env : List Value) (h : AH) (hs : List (Nat × AH)) (rs : List Rd) : Run P keep ops F n [] [] env h hs rs [] (.norm env h)
  | skip {n : Nat} {d : DO} {dl : List DO} {o : Oper} {os : List Oper} {env : List Value} {h : AH} {hs : List (Nat × AH)} {rs : List Rd} {trs : List TR} {fin : Fin'} (hw : wantA ops env o = some false)
      (k : Run P keep ops F (n + 1) dl os (putv env o.dst undef) h hs rs trs fin) : Run P keep ops F n (d :: dl) (o :: os) env h hs rs (⟨env, h, false, false, undef⟩ :: trs) fin
  | read {n : Nat} {d : DO} {dl : List DO} {o : Oper} {os : List Oper} {env : List Value} {h : AH} {hs hs' : List (Nat × AH)} {rs rs' : List Rd} {trs : List TR} {fin : Fin'} {v : Value} (hw : wantA ops env o = some true)
      (ha : aread P (ev env) h h.length o = some (v, none)) (hs1 : ∀ x ∈ hs, x ∈ hs') (hr1 : ∀ x ∈ rs, x ∈ rs') (hr2 : ldK d.o.k = true → ∃ f p, (n, f, p, v) ∈ rs' ∧ Same1 P env o f p v)
      (hold : ldK d.o.k = true → ∀ x ∈ hs, d.old.contains x.1 = true → aread P (ev env) x.2 x.2.length o = some (v, none))
      (hnp : potK d.o.k = false) (hfr : freeK d.o.k = true → ∀ h2 : AH, aread P (ev env) h2 h2.length o = some (v, none))
      (k : Run P keep ops F (n + 1) dl os (putv env o.dst v) h hs' rs' trs fin) : Run P keep ops F n (d :: dl) (o :: os) env h hs rs (⟨env, h, true, false, v⟩ :: trs) fin
  | write {n : Nat} {d : DO} {dl : List DO} {o : Oper} {os : List Oper} {env : List Value} {h h' : AH} {hs hs' : List (Nat × AH)} {rs rs' : List Rd} {trs : List TR} {fin : Fin'} {v : Value} (hw : wantA ops env o = some true)
      (ha : ∀ u, aread P (ev env) h h.length o ≠ some (u, none)) (ha2 : aopv P F keep env h o = some (.ret v, h')) (hp : potK d.o.k = true) (hal : alK d.o.k = true → allocOp o = true ∧ ∃ u B, aread P (ev env) h h.length o = some (u, some B))
      (hl : h.length ≤ h'.length) (hs1 : ∀ x ∈ hs, x ∈ hs') (hs2 : (n, h) ∈ hs') (hr1 : ∀ x ∈ rs, x ∈ rs') (hchk : ∀ x ∈ rs, d.chk.contains x.1 = true → uval P h' h'.length x.2.1 x.2.2.1 = some (x.2.2.2, none))
      (k : Run P keep ops F (n + 1) dl os (putv env o.dst v) h' hs' rs' trs fin) : Run P keep ops F n (d :: dl) (o :: os) env h hs rs (⟨env, h, true, true, v⟩ :: trs) fin
  | pan {n : Nat} {d : DO} {dl : List DO} {o : Oper} {os : List Oper} {env : List Value} {h h' : AH} {hs : List (Nat × AH)} {rs : List Rd} {v : Value} (hw : wantA ops env o = some true)
      (ha : ∀ u, aread P (ev env) h h.length o ≠ some (u, none)) (ha2 : aopv P F keep env h o = some (.pan v, h')) (hp : ∃ f as, d.o.k = .call f as) : Run P keep ops F n (d :: dl) (o :: os) env h hs rs [⟨env, h, true, true, v⟩] (.pan v h')

variable {n : Nat} {dl : List DO} {os : List Oper} {env : List Value} {h : AH} {hs : List (Nat × AH)} {rs : List Rd} {trs : List TR} {fin : Fin'}

theorem Run.trace (r : Run P keep ops F n dl os env h hs rs trs fin) : trace P F keep ops os env h = some (trs, fin) := by
  induction r with
  | nil => rfl
  | skip hw k ih => simp only [Eng.trace, hw, ih, Option.map_some, cons1]
  | read hw ha _ _ _ _ _ _ k ih => simp only [Eng.trace, hw, ha, ih, Option.map_some, cons1]
  | @write n d dl o os env h h' hs hs' rs rs' trs fin v hw ha ha2 _ _ _ _ _ _ _ k ih =>
    cases hh : aread P (ev env) h h.length o with
    | none => simp only [Eng.trace, hw, hh, ha2, ih, Option.map_some, cons1]
    | some res =>
      obtain ⟨u, _ | B⟩ := res
      · exact absurd hh (ha u)
      · simp only [Eng.trace, hw, hh, ha2, ih, Option.map_some, cons1]
  | @pan n d dl o os env h h' hs rs v hw ha ha2 hp =>
    cases hh : aread P (ev env) h h.length o with
    | none => simp only [Eng.trace, hw, hh, ha2]
    | some res =>
      obtain ⟨u, _ | B⟩ := res
      · exact absurd hh (ha u)
      · simp only [Eng.trace, hw, hh, ha2]

theorem Run.head (r : Run P keep ops F n dl os env h hs rs trs fin) : after1 trs fin 0 = (env, h) ∨ os = [] := by
  cases r with
  | nil => exact .inr rfl
  | _ => exact .inl rfl

theorem Run.head2 (r : Run P keep ops F n dl os env h hs rs trs fin) : (after1 trs fin 0).2 = h := by
  cases r <;> rfl

/-- What is known of a place. -/
theorem Run.facts (r : Run P keep ops F n dl os env h hs rs trs fin) : ∀ (q : Nat) (t : TR), trs[q]? = some t → ∃ d o, dl[q]? = some d ∧ os[q]? = some o ∧ h.length ≤ t.h.length ∧
    (t.k = true → t.w = true ∧ potK d.o.k = true) ∧ (t.k = true → alK d.o.k = true → allocOp o = true ∧ ∃ u B, aread P (ev t.env) t.h t.h.length o = some (u, some B)) ∧
    (t.w = true → t.k = false → freeK d.o.k = true → ∀ h2 : AH, aread P (ev t.env) h2 h2.length o = some (t.v, none)) ∧ (t.w = true → t.k = false → ∃ v, aread P (ev t.env) t.h t.h.length o = some (v, none)) ∧ (t.w = true ∨ wantA ops t.env o = some false) ∧ (t.w = true → t.k = false → potK d.o.k = false) := by
  induction r with
  | nil => intro q t ht; simp at ht
  | @skip n d dl o os env h hs rs trs fin hw k ih =>
    intro q t ht
    cases q with
    | zero => simp at ht; subst ht; exact ⟨d, o, rfl, rfl, Nat.le_refl _, (fun h => by cases h), (fun h => by cases h), (fun h => by cases h), (fun h => by cases h), .inr hw, (fun h => by cases h)⟩
    | succ q => exact ih q t (by simpa using ht)
  | @read n d dl o os env h hs hs' rs rs' trs fin v hw ha _ _ _ _ hnp hfr k ih =>
    intro q t ht
    cases q with
    | zero => simp at ht; subst ht; exact ⟨d, o, rfl, rfl, Nat.le_refl _, (fun h => by cases h), (fun h => by cases h), fun _ _ hf => hfr hf, fun _ _ => ⟨_, ha⟩, .inl rfl, fun _ _ => hnp⟩
    | succ q => exact ih q t (by simpa using ht)
  | @write n d dl o os env h h' hs hs' rs rs' trs fin v hw ha ha2 hp hal hl _ _ _ _ k ih =>
    intro q t ht
    cases q with
    | zero => simp at ht; subst ht; exact ⟨d, o, rfl, rfl, Nat.le_refl _, fun _ => ⟨rfl, hp⟩, fun _ => hal, (fun _ h => by cases h), (fun _ h => by cases h), .inl rfl, (fun _ h => by cases h)⟩
    | succ q =>
      obtain ⟨d', o', e1, e2, e3, e4⟩ := ih q t (by simpa using ht)
      exact ⟨d', o', e1, e2, Nat.le_trans hl e3, e4⟩
  | @pan n d dl o os env h h' hs rs v hw ha ha2 hp =>
    intro q t ht
    cases q with
    | zero =>
      simp at ht; subst ht
      obtain ⟨f, as, hk⟩ := hp
      exact ⟨d, o, rfl, rfl, Nat.le_refl _, fun _ => ⟨rfl, by rw [hk]; rfl⟩, (fun _ ha => by rw [hk] at ha; cases ha), (fun _ h => by cases h), (fun _ h => by cases h), .inl rfl, (fun _ h => by cases h)⟩
    | succ q => simp at ht

theorem Run.mono (r : Run P keep ops F n dl os env h hs rs trs fin) : ∀ (q q' : Nat) (t t' : TR), q ≤ q' → trs[q]? = some t → trs[q']? = some t' → t.h.length ≤ t'.h.length := by
  induction r with
  | nil => intro q q' t t' _ ht; simp at ht
  | skip hw k ih =>
    intro q q' t t' hq ht ht'
    cases q with
    | zero =>
      simp at ht; subst ht
      cases q' with
      | zero => simp at ht'; subst ht'; exact Nat.le_refl _
      | succ q' => obtain ⟨_, _, _, _, h1, _⟩ := k.facts q' t' (by simpa using ht'); exact h1
    | succ q =>
      cases q' with
      | zero => omega
      | succ q' => exact ih q q' t t' (by omega) (by simpa using ht) (by simpa using ht')
  | read _ _ _ _ _ _ _ _ k ih =>
    intro q q' t t' hq ht ht'
    cases q with
    | zero =>
      simp at ht; subst ht
      cases q' with
      | zero => simp at ht'; subst ht'; exact Nat.le_refl _
      | succ q' => obtain ⟨_, _, _, _, h1, _⟩ := k.facts q' t' (by simpa using ht'); exact h1
    | succ q =>
      cases q' with
      | zero => omega
      | succ q' => exact ih q q' t t' (by omega) (by simpa using ht) (by simpa using ht')
  | write _ _ _ _ _ hl _ _ _ _ k ih =>
    intro q q' t t' hq ht ht'
    cases q with
    | zero =>
      simp at ht; subst ht
      cases q' with
      | zero => simp at ht'; subst ht'; exact Nat.le_refl _
      | succ q' => obtain ⟨_, _, _, _, h1, _⟩ := k.facts q' t' (by simpa using ht'); exact Nat.le_trans hl h1
    | succ q =>
      cases q' with
      | zero => omega
      | succ q' => exact ih q q' t t' (by omega) (by simpa using ht) (by simpa using ht')
  | pan =>
    intro q q' t t' hq ht ht'
    cases q with
    | zero =>
      cases q' with
      | zero => simp at ht ht'; subst ht; subst ht'; exact Nat.le_refl _
      | succ q' => simp at ht'
    | succ q => simp at ht

/-- Loads stand behind writers that are not tied to them. -/
theorem Run.later (r : Run P keep ops F n dl os env h hs rs trs fin) : ∀ (q : Nat) (t : TR) (d : DO), trs[q]? = some t → t.k = true → dl[q]? = some d → q < many trs fin →
    (∀ x ∈ rs, d.chk.contains x.1 = true → uval P (after1 trs fin (q + 1)).2 (after1 trs fin (q + 1)).2.length x.2.1 x.2.2.1 = some (x.2.2.2, none)) ∧
    (∀ (q' : Nat) (t' : TR) (d' : DO) (o' : Oper), q' < q → trs[q']? = some t' → dl[q']? = some d' → os[q']? = some o' → t'.w = true → t'.k = false → ldK d'.o.k = true → d.chk.contains (n + q') = true →
      ∀ m, aread P (ev t'.env) (after1 trs fin (q + 1)).2 m o' = some (t'.v, none)) := by
  have sh : ∀ (t : TR) (trs : List TR) (fin : Fin') (q : Nat), after1 (t :: trs) fin (q + 1) = after1 trs fin q := fun t trs fin q => by simp [after1]
  have sm : ∀ (t : TR) (trs : List TR) (fin : Fin') (q : Nat), q + 1 < many (t :: trs) fin → q < many trs fin := fun t trs fin q h => by cases fin <;> simp [many] at h ⊢ <;> omega
  induction r with
  | nil => intro q t d ht; simp at ht
  | @skip n d0 dl o os env h hs rs trs fin hw k ih =>
    intro q t d ht hk hd hq
    cases q with
    | zero => simp at ht; subst ht; cases hk
    | succ q =>
      obtain ⟨h1, h2⟩ := ih q t d (by simpa using ht) hk (by simpa using hd) (sm _ _ _ _ hq)
      refine ⟨fun x hx hc => by rw [sh]; exact h1 x hx hc, fun q' t' d' o' hlt ht' hd' ho' hw' hk' hl hc m => ?_⟩
      cases q' with
      | zero => simp at ht'; subst ht'; cases hw'
      | succ q' => rw [sh]; exact h2 q' t' d' o' (by omega) (by simpa using ht') (by simpa using hd') (by simpa using ho') hw' hk' hl (by rw [show n + 1 + q' = n + (q' + 1) by omega]; exact hc) m
  | @read n d0 dl o os env h hs hs' rs rs' trs fin v hw ha hs1 hr1 hr2 hold hnp hfr k ih =>
    intro q t d ht hk hd hq
    cases q with
    | zero => simp at ht; subst ht; cases hk
    | succ q =>
      obtain ⟨h1, h2⟩ := ih q t d (by simpa using ht) hk (by simpa using hd) (sm _ _ _ _ hq)
      refine ⟨fun x hx hc => by rw [sh]; exact h1 x (hr1 x hx) hc, fun q' t' d' o' hlt ht' hd' ho' hw' hk' hl hc m => ?_⟩
      cases q' with
      | zero =>
        simp at ht' hd' ho'; subst ht'; subst hd'; subst ho'
        obtain ⟨f, p, e1, e2⟩ := hr2 hl
        rw [sh]
        exact e2 _ _ _ (h1 _ e1 (by simpa using hc))
      | succ q' => rw [sh]; exact h2 q' t' d' o' (by omega) (by simpa using ht') (by simpa using hd') (by simpa using ho') hw' hk' hl (by rw [show n + 1 + q' = n + (q' + 1) by omega]; exact hc) m
  | @write n d0 dl o os env h h' hs hs' rs rs' trs fin v hw ha ha2 hp hal hl hs1 hs2 hr1 hchk k ih =>
    intro q t d ht hk hd hq
    cases q with
    | zero =>
      simp at ht hd; subst ht; subst hd
      refine ⟨fun x hx hc => ?_, fun q' t' d' o' hlt => by omega⟩
      rw [sh, k.head2]
      exact hchk x hx hc
    | succ q =>
      obtain ⟨h1, h2⟩ := ih q t d (by simpa using ht) hk (by simpa using hd) (sm _ _ _ _ hq)
      refine ⟨fun x hx hc => by rw [sh]; exact h1 x (hr1 x hx) hc, fun q' t' d' o' hlt ht' hd' ho' hw' hk' hl hc m => ?_⟩
      cases q' with
      | zero => simp at ht'; subst ht'; cases hk'
      | succ q' => rw [sh]; exact h2 q' t' d' o' (by omega) (by simpa using ht') (by simpa using hd') (by simpa using ho') hw' hk' hl (by rw [show n + 1 + q' = n + (q' + 1) by omega]; exact hc) m
  | pan =>
    intro q t d ht hk hd hq
    cases q with
    | zero => simp [many] at hq
    | succ q => simp at ht

/-- Loads stand ahead of writers that are not tied to them. -/
theorem Run.sooner (r : Run P keep ops F n dl os env h hs rs trs fin) : ∀ (q : Nat) (t : TR) (d : DO) (o : Oper), trs[q]? = some t → t.w = true → t.k = false → dl[q]? = some d → os[q]? = some o → ldK d.o.k = true →
    (∀ x ∈ hs, d.old.contains x.1 = true → aread P (ev t.env) x.2 x.2.length o = some (t.v, none)) ∧
    (∀ (q' : Nat) (t' : TR), q' < q → trs[q']? = some t' → t'.k = true → d.old.contains (n + q') = true → aread P (ev t.env) t'.h t'.h.length o = some (t.v, none)) := by
  induction r with
  | nil => intro q t d o ht; simp at ht
  | @skip n d0 dl o0 os env h hs rs trs fin hw k ih =>
    intro q t d o ht hw' hk hd ho hl
    cases q with
    | zero => simp at ht; subst ht; cases hw'
    | succ q =>
      obtain ⟨h1, h2⟩ := ih q t d o (by simpa using ht) hw' hk (by simpa using hd) (by simpa using ho) hl
      refine ⟨h1, fun q' t' hlt ht' hk' hc => ?_⟩
      cases q' with
      | zero => simp at ht'; subst ht'; cases hk'
      | succ q' => exact h2 q' t' (by omega) (by simpa using ht') hk' (by rw [show n + 1 + q' = n + (q' + 1) by omega]; exact hc)
  | @read n d0 dl o0 os env h hs hs' rs rs' trs fin v hw ha hs1 hr1 hr2 hold hnp hfr k ih =>
    intro q t d o ht hw' hk hd ho hl
    cases q with
    | zero =>
      simp at ht hd ho; subst ht; subst hd; subst ho
      exact ⟨hold hl, fun q' t' hlt => by omega⟩
    | succ q =>
      obtain ⟨h1, h2⟩ := ih q t d o (by simpa using ht) hw' hk (by simpa using hd) (by simpa using ho) hl
      refine ⟨fun x hx hc => h1 x (hs1 x hx) hc, fun q' t' hlt ht' hk' hc => ?_⟩
      cases q' with
      | zero => simp at ht'; subst ht'; cases hk'
      | succ q' => exact h2 q' t' (by omega) (by simpa using ht') hk' (by rw [show n + 1 + q' = n + (q' + 1) by omega]; exact hc)
  | @write n d0 dl o0 os env h h' hs hs' rs rs' trs fin v hw ha ha2 hp hal hl0 hs1 hs2 hr1 hchk k ih =>
    intro q t d o ht hw' hk hd ho hl
    cases q with
    | zero => simp at ht; subst ht; cases hk
    | succ q =>
      obtain ⟨h1, h2⟩ := ih q t d o (by simpa using ht) hw' hk (by simpa using hd) (by simpa using ho) hl
      refine ⟨fun x hx hc => h1 x (hs1 x hx) hc, fun q' t' hlt ht' hk' hc => ?_⟩
      cases q' with
      | zero => simp at ht'; subst ht'; exact h1 _ hs2 (by simpa using hc)
      | succ q' => exact h2 q' t' (by omega) (by simpa using ht') hk' (by rw [show n + 1 + q' = n + (q' + 1) by omega]; exact hc)
  | pan =>
    intro q t d o ht hw' hk
    cases q with
    | zero => simp at ht; subst ht; cases hk
    | succ q => simp at ht

theorem Run.panLast (r : Run P keep ops F n dl os env h hs rs trs fin) : ∀ v h', fin = .pan v h' → ∃ q d f as, trs.length = q + 1 ∧ dl[q]? = some d ∧ d.o.k = .call f as := by
  induction r with
  | nil => intro v h' e; cases e
  | skip _ _ ih => intro v h' e; obtain ⟨q, d, f, as, e1, e2, e3⟩ := ih v h' e; exact ⟨q + 1, d, f, as, by simp [e1], by simpa using e2, e3⟩
  | read _ _ _ _ _ _ _ _ _ ih => intro v h' e; obtain ⟨q, d, f, as, e1, e2, e3⟩ := ih v h' e; exact ⟨q + 1, d, f, as, by simp [e1], by simpa using e2, e3⟩
  | write _ _ _ _ _ _ _ _ _ _ _ ih => intro v h' e; obtain ⟨q, d, f, as, e1, e2, e3⟩ := ih v h' e; exact ⟨q + 1, d, f, as, by simp [e1], by simpa using e2, e3⟩
  | pan _ _ _ hp => intro v h' e; obtain ⟨f, as, hk⟩ := hp; exact ⟨0, _, f, as, rfl, rfl, hk⟩

end
end Go.Eng
