/- The engine, part 14: regions that draw their order: at whatever order they come to what the engine says. -/
import Derived.Test.YtoojhjhamhkmjaaE13
set_option linter.unusedVariables false
set_option linter.unusedSimpArgs false
namespace Go.Eng

structure Inv (P : Program) (ops : Array Oper) (s : St) (trs : List TR) (fin : Fin') (r0 : Rho) (w0 : World) (L : Nat → Bool) (a : Act) (w : World) (p : Nat) (r : Rho) : Prop where
  closed : Closed ops L
  sub : ∀ i, L i = true → i < many trs fin
  ple : p ≤ many trs fin
  pat : p = 0 ∨ ∃ j tj, p = j + 1 ∧ trs[j]? = some tj ∧ tj.k = true
  done : ∀ j tj, trs[j]? = some tj → tj.k = true → j < many trs fin → (L j = true ↔ j < p)
  stp : Stp P r0 s.h w0 r (after1 trs fin p).2 w
  size : s.env.length ≤ a.tmps.size
  wrote : ∀ j tj oj t, L j = true → trs[j]? = some tj → ops[j]? = some oj → oj.dst = some t → t < s.env.length → ∃ v', a.tmps[t]? = some v' ∧ VR r tj.v v'
  kept : ∀ t v, (∀ j oj, L j = true → ops[j]? = some oj → oj.dst ≠ some t) → s.env[t]? = some v → ∃ v', a.tmps[t]? = some v' ∧ VR r v v'
  ds : DR r s.ds a.defers

def put1 (L : Nat → Bool) (i : Nat) : Nat → Bool := fun k => k == i || L k

section
variable {P : Program} {F : FT} {keep : Bool} {ops : Array Oper} {s : St} {trs : List TR} {fin : Fin'} {r0 : Rho} {w0 : World}

theorem many_le (trs : List TR) (fin : Fin') : many trs fin ≤ trs.length := by cases fin <;> simp [many]

theorem temps_spec {l : List Oper} {A : List Nat} (h : tempsOk ops l A = true) {i : Nat} {o : Oper} (ho : l[i]? = some o) :
    (∀ e ∈ o.after, Region.binds .any e = true → e.on < i) ∧
    (∀ j o' t, l[j]? = some o' → j ≠ i → o'.dst = some t → o.dst ≠ some t ∧ (t ∈ o.looksAt ops → if j < i then bit A i j = true else bit A j i = true)) := by
  have h1 := all_zipIdx h ho
  simp only [Bool.and_eq_true] at h1
  refine ⟨fun e he hb => ?_, fun j o' t ho' hne hd => ?_⟩
  · have := Array.all_eq_true_iff_forall_mem.1 h1.1 e he
    simpa [hb] using this
  · have h2 := all_zipIdx h1.2 ho'
    simp only [hd, Bool.or_eq_true, beq_iff_eq, Bool.and_eq_true, bne_iff_ne, ne_eq] at h2
    rcases h2 with h2 | ⟨h2, h3⟩
    · exact absurd h2.symm hne
    · refine ⟨h2, fun ht => ?_⟩
      rcases h3 with h3 | h3
      · simp at h3; exact absurd ht h3
      · split
        · rename_i hlt; rw [if_pos hlt] at h3; exact h3
        · rename_i hlt; rw [if_neg hlt] at h3; exact h3

/-- What an operation looks at is as in the text's order. -/
theorem Inv.look {L : Nat → Bool} {a : Act} {w : World} {p : Nat} {r : Rho} (hI : Inv P ops s trs fin r0 w0 L a w p r) (he : trace P F keep ops ops.toList s.env s.h = some (trs, fin))
    (ht : tempsOk ops ops.toList (ancs ops.toList) = true) {i : Nat} {o : Oper} {tr : TR} (ho : ops[i]? = some o) (htr : trs[i]? = some tr) (hi : L i = false)
    (hanc : ∀ j, bit (ancs ops.toList) i j = true → L j = true) : ∀ t ∈ o.looksAt ops, ∀ v, tr.env[t]? = some v → ∃ v', a.tmps[t]? = some v' ∧ VR r v v' := by
  intro t hlook v hv
  have hlt : i < trs.length := (List.getElem?_eq_some_iff.1 htr).1
  have haft : (after1 trs fin i).1 = tr.env := by simp [after1, htr]
  have hl : ops.toList[i]? = some o := by simpa using ho
  obtain ⟨_, hts⟩ := temps_spec ht hl
  rcases trace_env he i (.inl hlt) t v (by rw [haft]; exact hv) with ⟨j, tj, oj, h1, h2, h3, h4, h5, h6⟩ | ⟨h1, h2⟩
  · have := (hts j oj t h3 (by omega) h4).2 hlook
    rw [if_pos h1] at this
    obtain ⟨v', e1, e2⟩ := hI.wrote j tj oj t (hanc j this) h2 (by simpa using h3) h4 h6
    exact ⟨v', e1, by rw [← h5]; exact e2⟩
  · refine hI.kept t v (fun j oj hj hoj hd => ?_) h2
    have hoj' : ops.toList[j]? = some oj := by simpa using hoj
    by_cases hji : j < i
    · exact h1 j oj hji hoj' hd
    · have hne : j ≠ i := fun e => by rw [e, hi] at hj; cases hj
      have := (hts j oj t hoj' hne hd).2 hlook
      rw [if_neg hji] at this
      have := hI.closed.anc hoj (hI.closed j oj hoj hj) i this
      rw [hi] at this; cases this

def maskE (ts : List Tmp) (env : List Value) : List Value := env.zipIdx.map fun p => if ts.contains p.2 then p.1 else undef
def maskT (ts : List Tmp) (t : Array Value) : Array Value := (t.toList.zipIdx.map fun p => if ts.contains p.2 then p.1 else undef).toArray

theorem maskE_get (ts : List Tmp) (env : List Value) (t : Nat) : (maskE ts env)[t]? = (env[t]?).map fun v => if ts.contains t then v else undef := by
  unfold maskE
  rw [List.getElem?_map, List.getElem?_zipIdx]
  cases env[t]? <;> simp
theorem maskT_get (ts : List Tmp) (a : Array Value) (t : Nat) : (maskT ts a)[t]? = (a[t]?).map fun v => if ts.contains t then v else undef := by
  unfold maskT
  rw [List.getElem?_toArray, List.getElem?_map, List.getElem?_zipIdx, Array.getElem?_toList]
  cases a[t]? <;> simp

theorem mask_er {r : Rho} {ts : List Tmp} {env : List Value} {t : Array Value} (hs : env.length ≤ t.size) (h : ∀ x ∈ ts, ∀ v, env[x]? = some v → ∃ v', t[x]? = some v' ∧ VR r v v') : ER r (maskE ts env) (maskT ts t) := by
  intro x v hv
  rw [maskE_get] at hv
  rw [maskT_get]
  cases hx : env[x]? with
  | none => simp [hx] at hv
  | some u =>
    have hlt : x < t.size := by have := (List.getElem?_eq_some_iff.1 hx).1; omega
    simp only [hx, Option.map_some, Option.some.injEq] at hv
    by_cases hm : ts.contains x = true
    · rw [if_pos hm] at hv; subst hv
      obtain ⟨v', e1, e2⟩ := h x (by simpa using hm) _ hx
      have hm' : x ∈ ts := by simpa using hm
      exact ⟨v', by simp [e1, hm'], e2⟩
    · rw [if_neg hm] at hv; subst hv
      have hm' : ¬ x ∈ ts := by simpa using hm
      exact ⟨undef, by simp [hlt, hm'], undef_vr r⟩

theorem mask_ev {ts : List Tmp} {env : List Value} {x : Operand} (h : ∀ t, x = .tmp t → t ∈ ts) : ev env x = ev (maskE ts env) x := by
  cases x with
  | tmp t =>
    have := h t rfl
    simp only [ev, maskE_get]
    cases env[t]? <;> simp [this]
  | _ => rfl

theorem mask_eval {ts : List Tmp} {a : Act} {x : Operand} (h : ∀ t, x = .tmp t → t ∈ ts) : ({ a with tmps := maskT ts a.tmps } : Act).eval x = a.eval x := by
  cases x with
  | tmp t =>
    have := h t rfl
    simp only [Act.eval, Array.getD_eq_getD_getElem?, maskT_get]
    cases a.tmps[t]? <;> simp [this]
  | _ => rfl

theorem looks_op {o : Oper} {x : Operand} (hx : x ∈ o.op.operands) : ∀ t, x = .tmp t → t ∈ o.looksAt ops := fun t e => by
  subst e
  exact List.mem_append_left _ (List.mem_filterMap.2 ⟨.tmp t, by simpa using hx, rfl⟩)

theorem aread_notSel {env : List Value} {h : AH} {m : Nat} {o : Oper} {res : RRes} (he : aread P env h m o = some res) : ∀ cs b, o.op ≠ .select cs b := by
  intro cs b e
  unfold aread at he
  rw [e] at he
  cases he
theorem aopv_notSel {env : List Value} {h : AH} {o : Oper} {x : Res × AH} (he : aopv P F keep env h o = some x) : ∀ cs b, o.op ≠ .select cs b := by
  intro cs b e
  obtain ⟨dst, op, type, pos, after, guard⟩ := o
  simp only at e
  subst e
  unfold aopv at he
  simp only [aread, awrite] at he
  cases he

theorem want_mask {r : Rho} {env : List Value} {a : Act} {o : Oper} (h : ∀ x ∈ o.looksAt ops, ∀ v, env[x]? = some v → ∃ v', a.tmps[x]? = some v' ∧ VR r v v') {b : Bool} (he : wantA ops env o = some b) :
    Region.wanted o (yielded ops a.tmps) = b := by
  unfold wantA at he
  unfold Region.wanted
  split at he
  · rename_i hg; cases he; simp [hg]
  · rename_i j want hg
    rw [hg]
    dsimp only
    unfold yielded
    split at he
    · rename_i d hd
      have hmem : d ∈ o.looksAt ops := by
        unfold Oper.looksAt
        refine List.mem_append_right _ ?_
        rw [hg]
        simp only [hd]
        simp
      rw [hd]
      split at he
      · rename_i b' hb
        cases he
        obtain ⟨v', h1, h2⟩ := h d hmem _ hb
        rw [h2.bool_inv] at h1
        simp [h1]
      · rename_i v hnb hb
        cases he
        obtain ⟨v', h1, h2⟩ := h d hmem _ hb
        simp only [Option.bind_some, h1]
        cases h2 <;> first | exact absurd rfl (hnb _) | rfl
      · cases he
    · rename_i hd
      cases he
      rw [hd]; rfl

/-- An operation done: the invariant behind it. -/
theorem Inv.next {L : Nat → Bool} {a : Act} {w w' : World} {p p' : Nat} {r r' : Rho} (hI : Inv P ops s trs fin r0 w0 L a w p r) (ht : tempsOk ops ops.toList (ancs ops.toList) = true)
    {i : Nat} {o : Oper} {tr : TR} (ho : ops[i]? = some o) (htr : trs[i]? = some tr) (hi : L i = false) (him : i < many trs fin) (hdeps : ∀ e ∈ o.after, Region.binds .any e = true → L e.on = true)
    {v' : Value} (hv : VR r' tr.v v') (hle : r.le r') (hst : Stp P r0 s.h w0 r' (after1 trs fin p').2 w')
    (hp : p' ≤ many trs fin) (hpat : p' = 0 ∨ ∃ j tj, p' = j + 1 ∧ trs[j]? = some tj ∧ tj.k = true)
    (hdone : ∀ j tj, trs[j]? = some tj → tj.k = true → j < many trs fin → (put1 L i j = true ↔ j < p')) :
    Inv P ops s trs fin r0 w0 (put1 L i) (a.put o.dst v') w' p' r' := by
  have hl : ops.toList[i]? = some o := by simpa using ho
  obtain ⟨_, hts⟩ := temps_spec ht hl
  have hsz : (a.put o.dst v').tmps.size = a.tmps.size := by cases o.dst <;> simp [Act.put]
  have hother : ∀ t, o.dst ≠ some t → (a.put o.dst v').tmps[t]? = a.tmps[t]? := fun t h => by
    cases hd : o.dst with
    | none => rfl
    | some d => simp [Act.put, Array.getElem?_setIfInBounds_ne (fun e : d = t => h (by rw [hd, e]))]
  have hself : ∀ t, o.dst = some t → t < a.tmps.size → (a.put o.dst v').tmps[t]? = some v' := fun t h hlt => by simp [h, Act.put, hlt]
  refine ⟨fun k ok hk hLk e hem hb => ?_, fun k hk => ?_, hp, hpat, hdone, hst, by rw [hsz]; exact hI.size, fun j tj oj t hj htj hoj hd hlt => ?_, fun t v hno hv0 => ?_, by rw [put_defers]; exact hI.ds.mono hle⟩
  · simp only [put1, Bool.or_eq_true, beq_iff_eq] at hLk ⊢
    rcases hLk with rfl | hLk
    · rw [ho] at hk; cases hk; exact .inr (hdeps e hem hb)
    · exact .inr (hI.closed k ok hk hLk e hem hb)
  · simp only [put1, Bool.or_eq_true, beq_iff_eq] at hk
    rcases hk with rfl | hk
    · exact him
    · exact hI.sub k hk
  · simp only [put1, Bool.or_eq_true, beq_iff_eq] at hj
    by_cases hji : j = i
    · subst hji
      rw [ho] at hoj; cases hoj
      rw [htr] at htj; cases htj
      exact ⟨v', hself t hd (Nat.lt_of_lt_of_le hlt hI.size), hv⟩
    · have hLj : L j = true := by rcases hj with hj | hj; exact absurd hj hji; exact hj
      obtain ⟨u, e1, e2⟩ := hI.wrote j tj oj t hLj htj hoj hd hlt
      exact ⟨u, by rw [hother t (hts j oj t (by simpa using hoj) hji hd).1]; exact e1, e2.mono hle⟩
  · have hne : o.dst ≠ some t := hno i o (by simp [put1]) ho
    obtain ⟨u, e1, e2⟩ := hI.kept t v (fun j oj hj hoj => hno j oj (by simp [put1, hj]) hoj) hv0
    exact ⟨u, by rw [hother t hne]; exact e1, e2.mono hle⟩

theorem trace_last {env : List Value} {h : AH} : ∀ {l : List Oper} {env : List Value} {h : AH} {trs : List TR} {v : Value} {h' : AH}, trace P F keep ops l env h = some (trs, .pan v h') →
    ∃ t o, trs[trs.length - 1]? = some t ∧ l[trs.length - 1]? = some o ∧ t.w = true ∧ t.k = true ∧ aopv P F keep t.env t.h o = some (.pan v, h') := by
  intro l
  induction l with
  | nil => intro env h trs v h' he; cases he
  | cons o l ih =>
    intro env h trs v h' he
    simp only [trace] at he
    have go : ∀ {e h2 t}, (trace P F keep ops l e h2).map (cons1 t) = some (trs, .pan v h') → ∃ t o', trs[trs.length - 1]? = some t ∧ (o :: l)[trs.length - 1]? = some o' ∧ t.w = true ∧ t.k = true ∧ aopv P F keep t.env t.h o' = some (.pan v, h') := by
      intro e h2 t hh
      obtain ⟨⟨trs', fin'⟩, h1, h2⟩ := Option.map_eq_some_iff.1 hh
      simp only [cons1, Prod.mk.injEq] at h2
      obtain ⟨rfl, rfl⟩ := h2
      obtain ⟨t', o', e1, e2, e3⟩ := ih h1
      have hpos : 0 < trs'.length := by have := (List.getElem?_eq_some_iff.1 e1).1; omega
      refine ⟨t', o', ?_, ?_, e3⟩
      · rw [List.length_cons, show trs'.length + 1 - 1 = (trs'.length - 1) + 1 by omega, List.getElem?_cons_succ]
        exact e1
      · rw [List.length_cons, show trs'.length + 1 - 1 = (trs'.length - 1) + 1 by omega, List.getElem?_cons_succ]
        exact e2
    split at he
    · exact go he
    · split at he
      · exact go he
      · split at he
        · exact go he
        · rename_i v1 h1 hv
          cases he; exact ⟨_, o, rfl, rfl, rfl, rfl, hv⟩
        · cases he
    · cases he

theorem draw_step (hF : FOk P F) (he : trace P F keep ops ops.toList s.env s.h = some (trs, fin)) (ht : tempsOk ops ops.toList (ancs ops.toList) = true)
    (hc : chainOk ops.size (ancs ops.toList) trs fin = true) (hrd : readsOk P ops.toList (ancs ops.toList) trs fin = true)
    {Q : Exit → Act → World → Prop} (hQ : ∀ v h', fin = .pan v h' → ∀ a v' w' r', Stp P r0 s.h w0 r' h' w' → VR r' v v' → DR r' s.ds a.defers → Q (.panic [entry v']) a w')
    {L : Nat → Bool} {a : Act} {w : World} {p : Nat} {r : Rho} (hI : Inv P ops s trs fin r0 w0 L a w p r) {i : Nat} {o : Oper} (ho : ops[i]? = some o) (hi : L i = false)
    (hdeps : ∀ e ∈ o.after, Region.binds .any e = true → L e.on = true) {K : Act → World → Prop}
    (hK : ∀ a' w' p' r', Inv P ops s trs fin r0 w0 (put1 L i) a' w' p' r' → K a' w') : wpOp P ops Q i K a w := by
  have hl : ops.toList[i]? = some o := by simpa using ho
  have hanc : ∀ j, bit (ancs ops.toList) i j = true → L j = true := hI.closed.anc ho hdeps
  have hancL : ∀ k ok, ops[k]? = some ok → L k = true → ∀ j, bit (ancs ops.toList) k j = true → L j = true := fun k ok hok hk => hI.closed.anc hok (hI.closed k ok hok hk)
  have hisz : i < ops.size := (Array.getElem?_eq_some_iff.1 ho).1
  have hll : trs.length ≤ ops.size := by
    have : ops.toList.length = ops.size := by simp
    rcases trace_len _ _ _ _ _ he with ⟨_, _, _, hl⟩ | ⟨_, _, _, _, hl⟩ <;> omega
  unfold chainOk at hc
  simp only [Bool.and_eq_true] at hc
  -- the place was reached in the text's order
  have hreach : i < trs.length := by
    rcases trace_len _ _ _ _ _ he with ⟨_, _, _, hl⟩ | ⟨v, h2, hfin, hpos, hl⟩
    · have : ops.toList.length = ops.size := by simp
      omega
    · by_cases hlt : i < trs.length
      · exact hlt
      · exfalso
        have h2 := hc.2
        rw [hfin] at h2
        have h3 := List.all_eq_true.1 h2 i (by simp [hisz])
        simp only [Bool.or_eq_true, Bool.not_eq_true', decide_eq_false_iff_not] at h3
        rcases h3 with h3 | h3
        · omega
        · have := hI.sub _ (hanc _ h3)
          rw [hfin] at this
          simp [many] at this
  have htr : trs[i]? = some trs[i] := by simp [hreach]
  generalize htre : trs[i] = tr at htr
  have st := trace_step _ _ _ _ _ he i tr o htr hl
  obtain ⟨s1, s2, s3, s4⟩ := st
  have hlook := hI.look he ht ho htr hi hanc
  have hwant := want_mask hlook s1
  have henvlen : tr.env.length = s.env.length := trace_envlen _ _ _ _ _ he i tr htr
  have her : ER r (maskE (o.looksAt ops) tr.env) (maskT (o.looksAt ops) a.tmps) := mask_er (by rw [henvlen]; exact hI.size) hlook
  have hev : ∀ x ∈ o.op.operands, ev tr.env x = ev (maskE (o.looksAt ops) tr.env) x := fun x hx => mask_ev (looks_op hx)
  have hexec : (∀ cs b, o.op ≠ .select cs b) → execOp ({ a with tmps := maskT (o.looksAt ops) a.tmps } : Act).eval o = execOp a.eval o := fun hs => execOp_congr o hs fun x hx => mask_eval (looks_op hx)
  -- what has been written: all writers ahead of p, none behind
  have hpmax : ∀ j tj, trs[j]? = some tj → tj.k = true → j < many trs fin → (L j = true ↔ j < p) := hI.done
  have hmany : (tr.w = true → tr.k = true → False) ∨ True → (tr.w = true → ¬ tr.k = true) → i < many trs fin := by
    intro _ hnk
    cases hfin : fin with
    | norm => simp [many, hreach]
    | pan v h' =>
      simp only [many]
      rw [hfin] at he
      obtain ⟨t, _, e1, _, e2, e3, _⟩ := trace_last (h := s.h) (env := s.env) he
      by_cases hlast : i = trs.length - 1
      · rw [← hlast, htr] at e1; cases e1
        exact absurd e3 (hnk e2)
      · omega
  have hmany : (tr.w = true → ¬ tr.k = true) → i < many trs fin := hmany (.inr trivial)
  unfold wpOp
  simp only [ho, hwant]
  cases hw : tr.w with
  | false =>
    simp only [Bool.false_eq_true, if_false]
    obtain ⟨hk, hv, hnx⟩ := s2 hw
    have him := hmany (fun _ => by rw [hk]; simp)
    refine hK _ _ p r (hI.next ht ho htr hi him hdeps (by rw [hv]; exact undef_vr r) (.refl r) hI.stp hI.ple hI.pat fun j tj a1 b1 c1 => ?_)
    rw [← hpmax j tj a1 b1 c1]
    have hne : j ≠ i := fun e => by subst e; rw [htr] at a1; cases a1; rw [hk] at b1; cases b1
    simp [put1, hne]
  | true =>
    simp only [if_true]
    refine .inl ?_
    cases hk : tr.k with
    | false =>
      have him := hmany (fun _ => by rw [hk]; simp)
      obtain ⟨hread, hnx⟩ := s3 hw hk
      -- what is read at p
      have hat : ∃ m, aread P tr.env (after1 trs fin p).2 m o = some (tr.v, none) ∧ r m = none := by
        have hsp := own_spec trs i (by omega)
        have hown : (after1 trs fin (own trs i)).2 = tr.h := by
          have := heap_const he (p := own trs i) i hsp.2.1 (by omega) (fun h => by omega) (fun j tj a1 b1 c1 => by
            cases hkj : tj.k with
            | false => rfl
            | true => have := hsp.1 j tj a1 hkj c1; omega)
          rw [← this]; simp [after1, htr]
        have hfree := hI.stp.hr.free_end.2.1
        by_cases hpo : p = own trs i
        · refine ⟨(after1 trs fin p).2.length, ?_, hfree⟩
          rw [hpo, hown]; exact hread
        · have hall := all_zipIdx hrd (i := i) (x := (o, tr)) (by rw [List.getElem?_zip_eq_some]; exact ⟨hl, htr⟩)
          simp only [hw, hk, Bool.not_true, Bool.false_or, Bool.and_eq_true] at hall
          have hra : readAt P (ancs ops.toList) trs fin o tr i p = true := by
            rcases hI.pat with hp0 | ⟨j, tj, hpj, htj, hkj⟩
            · rw [hp0]; exact hall.1
            · have := all_zipIdx hall.2 htj
              simp only [hkj, Bool.not_true, Bool.false_or, Bool.or_eq_true, Bool.not_eq_true', decide_eq_false_iff_not] at this
              rw [hpj]
              rcases this with h1 | h1
              · exact absurd (by have := hI.ple; omega) h1
              · exact h1
          unfold readAt at hra
          simp only [Bool.or_eq_true, beq_iff_eq] at hra
          rcases hra with ((h1 | h1) | h1) | h1
          · exact absurd h1 hpo
          · exfalso
            obtain ⟨j, tj, e1, e2⟩ := any_zipIdx h1
            simp only [Bool.and_eq_true, Bool.not_eq_true', decide_eq_false_iff_not] at e2
            have hLj := hanc j e2.1.2
            exact e2.2 ((hpmax j tj e1 e2.1.1 (hI.sub j hLj)).1 hLj)
          · exfalso
            obtain ⟨j, tj, e1, e2⟩ := any_zipIdx h1
            simp only [Bool.and_eq_true, decide_eq_true_eq] at e2
            have hjm : j < many trs fin := by have := hI.ple; omega
            have hLj := (hpmax j tj e1 e2.1.1 hjm).2 e2.1.2
            have hjs : j < ops.size := by have := (List.getElem?_eq_some_iff.1 e1).1; omega
            have := hancL j ops[j] (by simp [hjs]) hLj i e2.2
            rw [hi] at this; cases this
          · split at h1
            · rename_i v hav
              rw [veq_eq 8 v tr.v h1] at hav
              exact ⟨_, hav, hfree⟩
            · cases h1
      obtain ⟨m, hm, hmf⟩ := hat
      rw [aread_congr hev] at hm
      obtain ⟨v', w', e1, e2, e3⟩ := aread_ok (a := { a with tmps := maskT (o.looksAt ops) a.tmps }) her hI.stp.hr hmf hm
      rw [hexec (aread_notSel hm)] at e1
      unfold Oper.wp
      rw [e1]
      refine hK _ _ p r (hI.next ht ho htr hi him hdeps e3 (.refl r) (hI.stp.trans (.same hI.stp.hr e2)) hI.ple hI.pat fun j tj a1 b1 c1 => ?_)
      rw [← hpmax j tj a1 b1 c1]
      have hne : j ≠ i := fun e => by subst e; rw [htr] at a1; cases a1; rw [hk] at b1; cases b1
      simp [put1, hne]
    | true =>
      -- all earlier writers are done, and no later one
      have hearlier : ∀ j tj, trs[j]? = some tj → tj.k = true → j < i → L j = true := fun j tj a1 b1 c1 => by
        have h1 := all_zipIdx hc.1 htr
        simp only [hk, Bool.not_true, Bool.false_or] at h1
        have h2 := all_zipIdx h1 a1
        simp only [b1, Bool.not_true, Bool.false_or, Bool.or_eq_true, Bool.not_eq_true', decide_eq_false_iff_not] at h2
        rcases h2 with h2 | h2
        · exact absurd c1 h2
        · exact hanc j h2
      have hlater : ∀ j tj, trs[j]? = some tj → tj.k = true → L j = true → j < i := fun j tj a1 b1 c1 => by
        rcases Nat.lt_trichotomy j i with h1 | h1 | h1
        · exact h1
        · subst h1; rw [hi] at c1; cases c1
        · exfalso
          have h2 := all_zipIdx hc.1 a1
          simp only [b1, Bool.not_true, Bool.false_or] at h2
          have h3 := all_zipIdx h2 htr
          simp only [hk, Bool.not_true, Bool.false_or, Bool.or_eq_true, Bool.not_eq_true', decide_eq_false_iff_not] at h3
          rcases h3 with h3 | h3
          · omega
          · have hjs : j < ops.size := by have := (List.getElem?_eq_some_iff.1 a1).1; omega
            have := hancL j ops[j] (by simp [hjs]) c1 i h3
            rw [hi] at this; cases this
      have hpi : p ≤ i := by
        rcases hI.pat with hp0 | ⟨j, tj, hpj, htj, hkj⟩
        · omega
        · have hjm : j < many trs fin := by have := hI.ple; omega
          have hLj := (hpmax j tj htj hkj hjm).2 (by omega)
          have := hlater j tj htj hkj hLj
          omega
      have hheap : (after1 trs fin p).2 = tr.h := by
        have := heap_const he (p := p) i hpi (by omega) (fun h => by omega) (fun j tj a1 b1 c1 => by
          cases hkj : tj.k with
          | false => rfl
          | true =>
            have hLj := hearlier j tj a1 hkj c1
            have := (hpmax j tj a1 hkj (hI.sub j hLj)).1 hLj
            omega)
        rw [← this]; simp [after1, htr]
      have hhr : HR P r tr.h w.heap := by rw [← hheap]; exact hI.stp.hr
      rcases s4 hw hk with ⟨hv, hnx⟩ | ⟨hlast, v, h', hfin, hv⟩
      · have him : i < many trs fin := by
          cases hfin : fin with
          | norm => simp [many, hreach]
          | pan v h' =>
            simp only [many]
            rw [hfin] at he
            obtain ⟨t, o', e1, e2, _, _, e3⟩ := trace_last (h := s.h) (env := s.env) he
            by_cases hlast : i = trs.length - 1
            · rw [← hlast, htr] at e1; cases e1
              rw [← hlast, hl] at e2; cases e2
              rw [hv] at e3; cases e3
            · omega
        unfold Oper.wp
        have hv' := hv
        rw [aopv_congr hev] at hv
        rw [← hexec (aopv_notSel hv)]
        refine aopv_ok (a := { a with tmps := maskT (o.looksAt ops) a.tmps }) hF her hhr hv (fun v1 v' w' r' e1 st' hvr => ?_) (fun v1 v' w' r' e1 => by cases e1)
        cases e1
        have hst : Stp P r0 s.h w0 r' (after1 trs fin (i + 1)).2 w' := by
          refine hI.stp.trans ?_
          rw [hheap]; exact st'
        refine hK _ _ (i + 1) r' (hI.next ht ho htr hi him hdeps hvr st'.le hst him (.inr ⟨i, tr, rfl, htr, hk⟩) fun j tj a1 b1 c1 => ?_)
        simp only [put1, Bool.or_eq_true, beq_iff_eq]
        constructor
        · rintro (h1 | h1)
          · omega
          · have := hlater j tj a1 b1 h1; omega
        · intro h1
          by_cases hj : j = i
          · exact .inl hj
          · exact .inr (hearlier j tj a1 b1 (by omega))
      · unfold Oper.wp
        rw [aopv_congr hev] at hv
        rw [← hexec (aopv_notSel hv)]
        refine aopv_ok (a := { a with tmps := maskT (o.looksAt ops) a.tmps }) hF her hhr hv (fun v1 v' w' r' e1 => by cases e1) (fun v1 v' w' r' e1 st' hvr => ?_)
        cases e1
        refine hQ _ _ hfin a v' w' r' ?_ hvr (hI.ds.mono st'.le)
        refine hI.stp.trans ?_
        rw [hheap]; exact st'

/-- The operations that are still to come. -/
def left (listed : Array Bool) : Nat := ((List.range listed.size).filter fun i => !listed.getD i true).length

theorem left_set {listed : Array Bool} {i : Nat} (hi : i < listed.size) (h : listed.getD i true = false) : left (listed.setIfInBounds i true) < left listed := by
  unfold left
  have hsz : (listed.setIfInBounds i true).size = listed.size := by simp
  rw [hsz]
  have h1 : ((List.range listed.size).filter fun k => !(listed.setIfInBounds i true).getD k true) = (((List.range listed.size).filter fun k => !listed.getD k true).filter fun k => k != i) := by
    rw [List.filter_filter]
    apply List.filter_congr
    intro k hk
    by_cases e : i = k
    · subst e; simp [hi]
    · rw [getD_set_ne true e]
      have : (k != i) = true := by simp; exact fun h => e h.symm
      simp [this]
  rw [h1]
  have hmem : i ∈ (List.range listed.size).filter fun k => !listed.getD k true := by
    rw [List.mem_filter]; exact ⟨by simpa using hi, by simp only [h]; rfl⟩
  exact Nat.lt_of_le_of_ne (List.length_filter_le _ _) fun e => by
    have := List.length_filter_eq_length_iff.1 e i hmem
    simp at this

theorem draw_any (hF : FOk P F) (hm : P.follows .mixedOrders = true) (he : trace P F keep ops ops.toList s.env s.h = some (trs, fin)) (ht : tempsOk ops ops.toList (ancs ops.toList) = true)
    (hc : chainOk ops.size (ancs ops.toList) trs fin = true) (hrd : readsOk P ops.toList (ancs ops.toList) trs fin = true)
    {Q : Exit → Act → World → Prop} (hQ : ∀ v h', fin = .pan v h' → ∀ a v' w' r', Stp P r0 s.h w0 r' h' w' → VR r' v v' → DR r' s.ds a.defers → Q (.panic [entry v']) a w')
    (hN : ∀ env h', fin = .norm env h' → ∀ a w' r', Stp P r0 s.h w0 r' h' w' → ER r' env a.tmps → DR r' s.ds a.defers → Q .normal a w') :
    ∀ (fuel : Nat) (listed : Array Bool) (a : Act) (w : World) (p : Nat) (r : Rho), listed.size = ops.size → left listed ≤ fuel → Inv P ops s trs fin r0 w0 (fun k => listed.getD k false) a w p r →
      wpAny P .any ops Q fuel listed a w := by
  have hlen : ops.toList.length = ops.size := by simp
  -- a region that is done
  have fin_all : ∀ (listed : Array Bool) (a : Act) (w : World) (p : Nat) (r : Rho), listed.size = ops.size → Region.ready .any ops listed = [] → Inv P ops s trs fin r0 w0 (fun k => listed.getD k false) a w p r → Q .normal a w := by
    intro listed a w p r hsz hready hI
    -- all are listed
    have hall : ∀ i, i < ops.size → listed.getD i false = true := by
      intro i
      induction i using Nat.strongRecOn with
      | _ i ih =>
        intro hi
        by_cases hl : listed.getD i false = true
        · exact hl
        · exfalso
          have hmem : i ∈ Region.ready .any ops listed := by
            rw [mem_ready]
            refine ⟨?_, ops[i], by simp [hi], fun e hem hb => ?_⟩
            · have hi' : i < listed.size := by omega
              simp [hi'] at hl ⊢; exact hl
            · have := (temps_spec ht (i := i) (o := ops[i]) (by simp [hi])).1 e hem hb
              exact ih e.on this (by omega)
          rw [hready] at hmem
          cases hmem
    rcases trace_len _ _ _ _ _ he with ⟨env, h2, hfin, hl⟩ | ⟨v, h2, hfin, hpos, hl⟩
    · have hmany : many trs fin = ops.size := by rw [hfin]; simp [many]; omega
      have hheap : (after1 trs fin p).2 = h2 := by
        have := heap_const he (p := p) trs.length (by have := hI.ple; omega) (Nat.le_refl _) (fun _ => ⟨_, _, hfin⟩) (fun j tj a1 b1 c1 => by
          cases hkj : tj.k with
          | false => rfl
          | true =>
            have := (hI.done j tj a1 hkj (by omega)).1 (hall j (by omega))
            omega)
        rw [← this]
        simp [after1, hfin]
      refine hN env h2 hfin a w r (by rw [← hheap]; exact hI.stp) (fun t v hv => ?_) hI.ds
      have haft : (after1 trs fin trs.length).1 = env := by simp [after1, hfin]
      rcases trace_env he trs.length (.inr ⟨rfl, _, _, hfin⟩) t v (by rw [haft]; exact hv) with ⟨j, tj, oj, h1, h3, h4, h5, h6, h7⟩ | ⟨h1, h3⟩
      · obtain ⟨v', e1, e2⟩ := hI.wrote j tj oj t (hall j (by omega)) h3 (by simpa using h4) h5 h7
        exact ⟨v', e1, by rw [← h6]; exact e2⟩
      · exact hI.kept t v (fun j oj hj hoj hd => h1 j oj (by have := (Array.getElem?_eq_some_iff.1 hoj).1; omega) (by simpa using hoj) hd) h3
    · exfalso
      have := hI.sub (trs.length - 1) (hall _ (by omega))
      rw [hfin] at this
      simp [many] at this
  intro fuel
  induction fuel with
  | zero =>
    intro listed a w p r hsz hleft hI
    have hready : Region.ready .any ops listed = [] := by
      cases hr : Region.ready .any ops listed with
      | nil => rfl
      | cons i rest =>
        exfalso
        have hmem : i ∈ Region.ready .any ops listed := by rw [hr]; simp
        rw [mem_ready] at hmem
        obtain ⟨h1, o, h2, _⟩ := hmem
        have hi : i < listed.size := by rw [hsz]; exact (Array.getElem?_eq_some_iff.1 h2).1
        have := left_set hi h1
        omega
    exact ⟨hready, fin_all listed a w p r hsz hready hI⟩
  | succ fuel ih =>
    intro listed a w p r hsz hleft hI
    refine ⟨fun hready => fin_all listed a w p r hsz hready hI, fun i hi => ?_⟩
    rw [mem_ready] at hi
    obtain ⟨h1, o, h2, h3⟩ := hi
    have hil : i < listed.size := by rw [hsz]; exact (Array.getElem?_eq_some_iff.1 h2).1
    have hLi : listed.getD i false = false := by simp [hil] at h1 ⊢; exact h1
    refine draw_step hF he ht hc hrd hQ hI h2 hLi h3 (fun a' w' p' r' hI' => ih _ a' w' p' r' (by simp [hsz]) (by have := left_set hil h1; omega) ?_)
    have hput : (fun k => (listed.setIfInBounds i true).getD k false) = put1 (fun k => listed.getD k false) i := by
      funext k
      unfold put1
      by_cases e : i = k
      · subst e; simp [hil]
      · rw [getD_set_ne false e]
        have : (k == i) = false := by simp; exact fun h => e h.symm
        simp [this]
    rw [hput]; exact hI'

end

theorem adraw_ok {P : Program} (hm : P.follows .mixedOrders = true) {keep : Bool} {F : FT} (hF : FOk P F) : DOk P (adraw P keep F) := by
  intro ops s s' out he r a w id Q hs hQ
  unfold adraw at he
  split at he
  case h_2 => cases he
  case h_1 trs fin htr =>
    split at he
    case isFalse => cases he
    case isTrue hc =>
      simp only [Bool.and_eq_true] at hc
      obtain ⟨⟨ht, hc⟩, hrd⟩ := hc
      refine wp_region_any hm ?_
      have hstart : (after1 trs fin 0).2 = s.h := by
        rcases trace_ok _ _ _ _ _ htr with h2 | ⟨h2, h3⟩
        · rw [h2]
        · rcases trace_len _ _ _ _ _ htr with ⟨_, _, _, hl⟩ | ⟨_, _, _, hl, _⟩
          · rw [h2] at hl; exact absurd (List.length_eq_zero_iff.1 hl.symm) h3
          · rw [h2] at hl; simp at hl
      have hst : Stp P r s.h w r s.h { w with drawn := w.drawn + 1 } := .same hs.hr (.drew w)
      have hsize : s.env.length ≤ a.tmps.size := by
        by_cases h0 : s.env.length = 0
        · omega
        · obtain ⟨v', h1, _⟩ := hs.env (s.env.length - 1) (s.env[s.env.length - 1]'(by omega)) (by simp)
          have := (Array.getElem?_eq_some_iff.1 h1).1
          omega
      have hI : Inv P ops s trs fin r w (fun k => (Array.replicate ops.size false).getD k false) a { w with drawn := w.drawn + 1 } 0 r := by
        have hf : ∀ k, (Array.replicate ops.size false).getD k false = false := fun k => by
          by_cases hk : k < ops.size <;> simp [hk]
        refine ⟨fun i o ho hL => ?_, fun i hL => ?_, Nat.zero_le _, .inl rfl, fun j tj _ _ _ => ?_, by rw [hstart]; exact hst, hsize, fun j tj oj t hL => ?_, fun t v _ hv => ?_, hs.ds⟩
        · rw [hf] at hL; cases hL
        · rw [hf] at hL; cases hL
        · rw [hf]; simp
        · rw [hf] at hL; cases hL
        · exact hs.env t v hv
      refine draw_any (r0 := r) (w0 := w) hF hm htr ht hc hrd (fun v h' hfin a' v' w' r' st hv hd => ?_) (fun env h' hfin a' w' r' st hen hd => ?_) ops.size _ a _ 0 r (by simp) ?_ hI
      · subst hfin
        cases he
        exact hQ _ _ _ r' ⟨v', rfl, hv⟩ st ⟨fun i v h => by simp at h, st.hr, hd⟩
      · subst hfin
        cases he
        exact hQ _ _ _ r' rfl st ⟨hen, st.hr, hd⟩
      · unfold left
        exact Nat.le_trans (List.length_filter_le _ _) (by simp)

end Go.Eng
