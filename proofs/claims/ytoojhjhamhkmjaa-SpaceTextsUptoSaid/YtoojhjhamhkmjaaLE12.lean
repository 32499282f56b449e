/- The engine, part 12: regions that draw their order, at any order. -/
import Derived.Test.YtoojhjhamhkmjaaLE11
set_option linter.unusedVariables false
set_option linter.unusedSimpArgs false
namespace Go.Eng

/-! ### What must come before -/

def ancOf (ds : List Nat) (o : Oper) : Nat :=
  o.after.toList.foldl (fun m e => if Region.binds .any e then m ||| (2 ^ e.on ||| (ds[e.on]?).getD 0) else m) 0

def ancsGo : List Oper → List Nat → List Nat
  | [], ds => ds
  | o :: l, ds => ancsGo l (ds ++ [ancOf ds o])

def ancs (l : List Oper) : List Nat := ancsGo l []

theorem ancsGo_pre : ∀ (l : List Oper) (ds : List Nat) (i : Nat), i < ds.length → (ancsGo l ds)[i]? = ds[i]? := by
  intro l
  induction l with
  | nil => intro ds i _; rfl
  | cons o l ih =>
    intro ds i hi
    simp only [ancsGo]
    rw [ih _ i (by simp; omega), List.getElem?_append_left hi]

theorem ancsGo_get : ∀ (l : List Oper) (ds : List Nat) (k : Nat) (o : Oper), l[k]? = some o → ∃ ds', (∀ j, j < ds.length + k → ds'[j]? = (ancsGo l ds)[j]?) ∧ ds'.length = ds.length + k ∧ (ancsGo l ds)[ds.length + k]? = some (ancOf ds' o) := by
  intro l
  induction l with
  | nil => intro ds k o h; simp at h
  | cons x l ih =>
    intro ds k o h
    cases k with
    | zero =>
      simp at h; subst h
      refine ⟨ds, fun j hj => ?_, rfl, ?_⟩
      · simp only [ancsGo]
        rw [ancsGo_pre _ _ j (by simp; omega), List.getElem?_append_left (by omega)]
      · simp only [ancsGo]
        rw [ancsGo_pre _ _ _ (by simp)]
        simp
    | succ k =>
      obtain ⟨ds', h1, h2, h3⟩ := ih (ds ++ [ancOf ds x]) k o (by simpa using h)
      simp only [List.length_append, List.length_cons, List.length_nil, Nat.zero_add] at h1 h2 h3
      refine ⟨ds', fun j hj => ?_, by omega, ?_⟩
      · simp only [ancsGo]; exact h1 j (by omega)
      · simp only [ancsGo]; rw [show ds.length + (k + 1) = ds.length + 1 + k by omega]; exact h3

theorem fold_bit (ds : List Nat) (j : Nat) : ∀ (l : List Edge) (m : Nat), (l.foldl (fun m e => if Region.binds .any e then m ||| (2 ^ e.on ||| (ds[e.on]?).getD 0) else m) m).testBit j = true →
    m.testBit j = true ∨ ∃ e ∈ l, Region.binds .any e = true ∧ (j = e.on ∨ ((ds[e.on]?).getD 0).testBit j = true) := by
  intro l
  induction l with
  | nil => intro m h; exact .inl h
  | cons e l ih =>
    intro m h
    simp only [List.foldl_cons] at h
    rcases ih _ h with h | ⟨e', h1, h2⟩
    · split at h
      · rename_i hb
        rw [Nat.testBit_or, Nat.testBit_or, Bool.or_eq_true, Bool.or_eq_true] at h
        rcases h with h | h | h
        · exact .inl h
        · rw [Nat.testBit_two_pow] at h
          exact .inr ⟨e, by simp, hb, .inl (by simpa [eq_comm] using h)⟩
        · exact .inr ⟨e, by simp, hb, .inr h⟩
      · exact .inl h
    · exact .inr ⟨e', by simp [h1], h2⟩

theorem anc_spec {l : List Oper} {i j : Nat} {o : Oper} (ho : l[i]? = some o) (h : (((ancs l)[i]?).getD 0).testBit j = true) :
    ∃ e ∈ o.after, Region.binds .any e = true ∧ (j = e.on ∨ (e.on < i ∧ (((ancs l)[e.on]?).getD 0).testBit j = true)) := by
  obtain ⟨ds, h1, h2, h3⟩ := ancsGo_get l [] i o ho
  simp only [List.length_nil, Nat.zero_add] at h1 h2 h3
  unfold ancs at h ⊢
  rw [h3] at h
  simp only [Option.getD_some] at h
  unfold ancOf at h
  rcases fold_bit ds j _ _ h with h | ⟨e, he, hb, hj⟩
  · simp at h
  · refine ⟨e, by simpa using he, hb, ?_⟩
    rcases hj with rfl | hj
    · exact .inl rfl
    · by_cases hlt : e.on < i
      · rw [h1 _ hlt] at hj; exact .inr ⟨hlt, hj⟩
      · rw [List.getElem?_eq_none (by omega)] at hj; simp at hj

/-- What has been done holds all that had to come before it. -/
def Closed (ops : Array Oper) (L : Nat → Bool) : Prop :=
  ∀ (i : Nat) (o : Oper), ops[i]? = some o → L i = true → ∀ e ∈ o.after, Region.binds .any e = true → L e.on = true

theorem Closed.anc {ops : Array Oper} {L : Nat → Bool} (hL : Closed ops L) {i : Nat} {o : Oper} (ho : ops[i]? = some o) (hdeps : ∀ e ∈ o.after, Region.binds .any e = true → L e.on = true) :
    ∀ j, (((ancs ops.toList)[i]?).getD 0).testBit j = true → L j = true := by
  induction i using Nat.strongRecOn generalizing o with
  | _ i ih =>
    intro j hj
    obtain ⟨e, he, hb, hje⟩ := anc_spec (by simpa using ho) hj
    rcases hje with rfl | ⟨hlt, hj'⟩
    · exact hdeps e he hb
    · have hle := hdeps e he hb
      cases hoe : ops[e.on]? with
      | none =>
        exfalso
        have hlt' : ¬ e.on < ops.size := by
          intro hh; rw [Array.getElem?_eq_getElem hh] at hoe; cases hoe
        have hi := (Array.getElem?_eq_some_iff.1 ho).1
        omega
      | some oe => exact ih e.on hlt hoe (fun e' he' hb' => hL e.on oe hoe hle e' he' hb') j hj'

/-! ### The run in the order of the text -/

structure TR where
  env : List Value
  h : AH
  w : Bool
  k : Bool
  v : Value

inductive Fin' where
  | norm (env : List Value) (h : AH)
  | pan (v : Value) (h : AH)

def cons1 (t : TR) (x : List TR × Fin') : List TR × Fin' := (t :: x.1, x.2)

def trace (P : Program) (F : FT) (keep : Bool) (ops : Array Oper) : List Oper → List Value → AH → Option (List TR × Fin')
  | [], env, h => some ([], .norm env h)
  | o :: l, env, h =>
    match wantA ops env o with
    | some false => (trace P F keep ops l (putv env o.dst undef) h).map (cons1 ⟨env, h, false, false, undef⟩)
    | some true =>
      match aread P (ev env) h h.length o with
      | some (v, none) => (trace P F keep ops l (putv env o.dst v) h).map (cons1 ⟨env, h, true, false, v⟩)
      | _ =>
        match aopv P F keep env h o with
        | some (.ret v, h') => (trace P F keep ops l (putv env o.dst v) h').map (cons1 ⟨env, h, true, true, v⟩)
        | some (.pan v, h') => some ([⟨env, h, true, true, v⟩], .pan v h')
        | none => none
    | none => none

/-- The environment and the heap behind a place. -/
def after1 (trs : List TR) (fin : Fin') (i : Nat) : List Value × AH :=
  match trs[i]? with
  | some t => (t.env, t.h)
  | none => match fin with
    | .norm env h => (env, h)
    | .pan _ h => ([], h)

/-- What is known of a place of the run. -/
def StepF (P : Program) (F : FT) (keep : Bool) (ops : Array Oper) (o : Oper) (t : TR) (nx : List Value × AH) (last : Bool) (fin : Fin') : Prop :=
  wantA ops t.env o = some t.w ∧
  (t.w = false → t.k = false ∧ t.v = undef ∧ nx = (putv t.env o.dst t.v, t.h)) ∧
  (t.w = true → t.k = false → aread P (ev t.env) t.h t.h.length o = some (t.v, none) ∧ nx = (putv t.env o.dst t.v, t.h)) ∧
  (t.w = true → t.k = true → (aopv P F keep t.env t.h o = some (.ret t.v, nx.2) ∧ nx.1 = putv t.env o.dst t.v) ∨
    (last = true ∧ ∃ v h', fin = .pan v h' ∧ aopv P F keep t.env t.h o = some (.pan v, h')))

theorem trace_ok {P : Program} {F : FT} {keep : Bool} {ops : Array Oper} : ∀ (l : List Oper) (env : List Value) (h : AH) (trs : List TR) (fin : Fin'), trace P F keep ops l env h = some (trs, fin) →
    after1 trs fin 0 = (env, h) ∨ (trs = [] ∧ l ≠ []) := by
  intro l env h trs fin he
  cases l with
  | nil => cases he; exact .inl rfl
  | cons o l =>
    simp only [trace] at he
    have go : ∀ {e h2 t}, t.env = env → t.h = h → (trace P F keep ops l e h2).map (cons1 t) = some (trs, fin) → after1 trs fin 0 = (env, h) := by
      intro e h2 t h3 h4 hh
      obtain ⟨⟨trs', fin'⟩, h1, h2⟩ := Option.map_eq_some_iff.1 hh
      simp only [cons1, Prod.mk.injEq] at h2
      obtain ⟨rfl, rfl⟩ := h2
      simp [after1, h3, h4]
    split at he
    · exact .inl (go rfl rfl he)
    · split at he
      · exact .inl (go rfl rfl he)
      · split at he
        · exact .inl (go rfl rfl he)
        · cases he; exact .inl rfl
        · cases he
    · cases he

theorem trace_len {P : Program} {F : FT} {keep : Bool} {ops : Array Oper} : ∀ (l : List Oper) (env : List Value) (h : AH) (trs : List TR) (fin : Fin'), trace P F keep ops l env h = some (trs, fin) →
    (∃ e2 h2, fin = .norm e2 h2 ∧ trs.length = l.length) ∨ (∃ v h2, fin = .pan v h2 ∧ 0 < trs.length ∧ trs.length ≤ l.length) := by
  intro l
  induction l with
  | nil => intro env h trs fin he; cases he; exact .inl ⟨_, _, rfl, rfl⟩
  | cons o l ih =>
    intro env h trs fin he
    simp only [trace] at he
    have rec1 : ∀ {env h t}, (trace P F keep ops l env h).map (cons1 t) = some (trs, fin) → (∃ e2 h2, fin = .norm e2 h2 ∧ trs.length = (o :: l).length) ∨ (∃ v h2, fin = .pan v h2 ∧ 0 < trs.length ∧ trs.length ≤ (o :: l).length) := by
      intro env h t hh
      obtain ⟨⟨trs', fin'⟩, h1, h2⟩ := Option.map_eq_some_iff.1 hh
      simp only [cons1, Prod.mk.injEq] at h2
      obtain ⟨rfl, rfl⟩ := h2
      rcases ih _ _ _ _ h1 with ⟨e2, h2, e, hl⟩ | ⟨v, h2, e, hl, hl'⟩
      · exact .inl ⟨e2, h2, e, by simp [hl]⟩
      · exact .inr ⟨v, h2, e, by simp, by simpa using hl'⟩
    split at he
    · exact rec1 he
    · split at he
      · exact rec1 he
      · split at he
        · exact rec1 he
        · cases he; exact .inr ⟨_, _, rfl, by simp, by simp⟩
        · cases he
    · cases he

theorem trace_step {P : Program} {F : FT} {keep : Bool} {ops : Array Oper} : ∀ (l : List Oper) (env : List Value) (h : AH) (trs : List TR) (fin : Fin'), trace P F keep ops l env h = some (trs, fin) →
    ∀ (i : Nat) (t : TR) (o : Oper), trs[i]? = some t → l[i]? = some o → StepF P F keep ops o t (after1 trs fin (i + 1)) (decide (i + 1 = trs.length)) fin := by
  intro l
  induction l with
  | nil => intro env h trs fin he i t o hi; cases he; simp at hi
  | cons o l ih =>
    intro env h trs fin he i t o' hi ho
    simp only [trace] at he
    have aft : ∀ {env h t0 trs' fin'}, trace P F keep ops l env h = some (trs', fin') → after1 (t0 :: trs') fin' 1 = (env, h) := by
      intro env h t0 trs' fin' h1
      have : after1 (t0 :: trs') fin' 1 = after1 trs' fin' 0 := by simp [after1]
      rw [this]
      rcases trace_ok _ _ _ _ _ h1 with h2 | ⟨h2, h3⟩
      · exact h2
      · rcases trace_len _ _ _ _ _ h1 with ⟨_, _, _, hl⟩ | ⟨_, _, _, hl, _⟩
        · rw [h2] at hl; exact absurd (List.length_eq_zero_iff.1 hl.symm) h3
        · rw [h2] at hl; simp at hl
    have rec1 : ∀ {env h t0 trs' fin'}, trace P F keep ops l env h = some (trs', fin') → trs = t0 :: trs' → fin = fin' → 0 < i → StepF P F keep ops o' t (after1 trs fin (i + 1)) (decide (i + 1 = trs.length)) fin := by
      intro env h t0 trs' fin' h1 e1 e2 hpos
      subst e1; subst e2
      obtain ⟨i, rfl⟩ : ∃ k, i = k + 1 := ⟨i - 1, by omega⟩
      have := ih _ _ _ _ h1 i t o' (by simpa using hi) (by simpa using ho)
      have e3 : after1 (t0 :: trs') fin (i + 1 + 1) = after1 trs' fin (i + 1) := by simp [after1]
      have e4 : decide (i + 1 + 1 = (t0 :: trs').length) = decide (i + 1 = trs'.length) := by simp
      rw [e3, e4]; exact this
    split at he
    · rename_i hw
      obtain ⟨⟨trs', fin'⟩, h1, h2⟩ := Option.map_eq_some_iff.1 he
      simp only [cons1, Prod.mk.injEq] at h2
      obtain ⟨rfl, rfl⟩ := h2
      cases i with
      | zero =>
        simp at hi ho; subst hi; subst ho
        rw [aft h1]
        refine ⟨hw, fun _ => ⟨rfl, rfl, rfl⟩, ?_, ?_⟩ <;> (intro hh; simp at hh)
      | succ i => exact rec1 h1 rfl rfl (by omega)
    · rename_i hw
      split at he
      · rename_i v hrd
        obtain ⟨⟨trs', fin'⟩, h1, h2⟩ := Option.map_eq_some_iff.1 he
        simp only [cons1, Prod.mk.injEq] at h2
        obtain ⟨rfl, rfl⟩ := h2
        cases i with
        | zero =>
          simp at hi ho; subst hi; subst ho
          rw [aft h1]
          refine ⟨hw, ?_, fun _ _ => ⟨hrd, rfl⟩, ?_⟩
          · intro hh; simp at hh
          · intro _ hh; simp at hh
        | succ i => exact rec1 h1 rfl rfl (by omega)
      · split at he
        · rename_i v h' hv
          obtain ⟨⟨trs', fin'⟩, h1, h2⟩ := Option.map_eq_some_iff.1 he
          simp only [cons1, Prod.mk.injEq] at h2
          obtain ⟨rfl, rfl⟩ := h2
          cases i with
          | zero =>
            simp at hi ho; subst hi; subst ho
            rw [aft h1]
            refine ⟨hw, ?_, ?_, fun _ _ => .inl ⟨hv, rfl⟩⟩
            · intro hh; simp at hh
            · intro _ hh; simp at hh
          | succ i => exact rec1 h1 rfl rfl (by omega)
        · rename_i v h' hv
          cases he
          cases i with
          | zero =>
            simp at hi ho; subst hi; subst ho
            refine ⟨hw, ?_, ?_, fun _ _ => .inr ⟨by simp, v, h', rfl, hv⟩⟩
            · intro hh; simp at hh
            · intro _ hh; simp at hh
          | succ i => simp at hi
        · cases he
    · cases he

theorem putv_length (env : List Value) (dst : Option Tmp) (v : Value) : (putv env dst v).length = env.length := by cases dst <;> simp [putv]

theorem trace_envlen {P : Program} {F : FT} {keep : Bool} {ops : Array Oper} : ∀ (l : List Oper) (env : List Value) (h : AH) (trs : List TR) (fin : Fin'), trace P F keep ops l env h = some (trs, fin) →
    ∀ (i : Nat) (t : TR), trs[i]? = some t → t.env.length = env.length := by
  intro l
  induction l with
  | nil => intro env h trs fin he i t hi; cases he; simp at hi
  | cons o l ih =>
    intro env h trs fin he i t hi
    simp only [trace] at he
    have go : ∀ {v h2 t0}, t0.env = env → (trace P F keep ops l (putv env o.dst v) h2).map (cons1 t0) = some (trs, fin) → t.env.length = env.length := by
      intro v h2 t0 h3 hh
      obtain ⟨⟨trs', fin'⟩, h1, h2⟩ := Option.map_eq_some_iff.1 hh
      simp only [cons1, Prod.mk.injEq] at h2
      obtain ⟨rfl, rfl⟩ := h2
      cases i with
      | zero => simp at hi; subst hi; rw [h3]
      | succ i => rw [ih _ _ _ _ h1 i t (by simpa using hi), putv_length]
    split at he
    · exact go rfl he
    · split at he
      · exact go rfl he
      · split at he
        · exact go rfl he
        · cases he
          cases i with
          | zero => simp at hi; subst hi; rfl
          | succ i => simp at hi
        · cases he
    · cases he

/-- The value of a temporary in the text's order: of the last place that wrote it, or as it was. -/
theorem trace_env {P : Program} {F : FT} {keep : Bool} {ops : Array Oper} {l : List Oper} {env : List Value} {h : AH} {trs : List TR} {fin : Fin'} (he : trace P F keep ops l env h = some (trs, fin)) :
    ∀ (i : Nat), (i < trs.length ∨ (i = trs.length ∧ ∃ e2 h2, fin = .norm e2 h2)) → ∀ (t : Nat) (v : Value), (after1 trs fin i).1[t]? = some v →
    (∃ j tj oj, j < i ∧ trs[j]? = some tj ∧ l[j]? = some oj ∧ oj.dst = some t ∧ tj.v = v ∧ t < env.length) ∨ ((∀ j oj, j < i → l[j]? = some oj → oj.dst ≠ some t) ∧ env[t]? = some v) := by
  intro i
  induction i with
  | zero =>
    intro hi t v hv
    have : after1 trs fin 0 = (env, h) := by
      rcases trace_ok _ _ _ _ _ he with h2 | ⟨h2, h3⟩
      · exact h2
      · rcases trace_len _ _ _ _ _ he with ⟨_, _, _, hl⟩ | ⟨_, _, _, hl, _⟩
        · rw [h2] at hl; exact absurd (List.length_eq_zero_iff.1 hl.symm) h3
        · rw [h2] at hl; simp at hl
    rw [this] at hv
    exact .inr ⟨fun j oj h => by omega, hv⟩
  | succ i ih =>
    intro hi t v hv
    have hi' : i < trs.length := by rcases hi with hi | ⟨hi, _⟩ <;> omega
    have hll : trs.length ≤ l.length := by rcases trace_len _ _ _ _ _ he with ⟨_, _, _, hl⟩ | ⟨_, _, _, _, hl⟩ <;> omega
    have htr : trs[i]? = some trs[i] := by simp [hi']
    have ho : l[i]? = some l[i] := by simp
    have st := trace_step _ _ _ _ _ he i _ _ htr ho
    have haft : (after1 trs fin i).1 = trs[i].env := by simp [after1, hi']
    have hnx : (after1 trs fin (i + 1)).1 = putv trs[i].env (l[i]'(by omega)).dst trs[i].v := by
      obtain ⟨s1, s2, s3, s4⟩ := st
      cases hw : trs[i].w with
      | false => rw [(s2 hw).2.2]
      | true =>
        cases hk : trs[i].k with
        | false => rw [(s3 hw hk).2]
        | true =>
          rcases s4 hw hk with ⟨_, h4⟩ | ⟨hlast, v', h', hfin, _⟩
          · exact h4
          · exfalso
            simp at hlast
            rcases hi with hi | ⟨_, e2, h2, e⟩
            · omega
            · rw [e] at hfin; cases hfin
    have hlen : trs[i].env.length = env.length := trace_envlen _ _ _ _ _ he i _ htr
    rw [hnx] at hv
    by_cases hd : (l[i]'(by omega)).dst = some t
    · simp only [putv, hd] at hv
      rw [List.getElem?_set] at hv
      simp only [if_true] at hv
      split at hv
      · rename_i hlt
        cases hv
        exact .inl ⟨i, trs[i], l[i], by omega, htr, ho, hd, rfl, by omega⟩
      · cases hv
    · have hv' : trs[i].env[t]? = some v := by
        unfold putv at hv
        split at hv
        · rename_i d hd'
          rw [List.getElem?_set_ne (fun e => hd (by rw [hd', e]))] at hv; exact hv
        · exact hv
      rcases ih (.inl hi') t v (by rw [haft]; exact hv') with ⟨j, tj, oj, h1, h2⟩ | ⟨h1, h2⟩
      · exact .inl ⟨j, tj, oj, by omega, h2⟩
      · refine .inr ⟨fun j oj hj hoj => ?_, h2⟩
        by_cases e : j = i
        · subst e; rw [ho] at hoj; cases hoj; exact hd
        · exact h1 j oj (by omega) hoj

end Go.Eng
