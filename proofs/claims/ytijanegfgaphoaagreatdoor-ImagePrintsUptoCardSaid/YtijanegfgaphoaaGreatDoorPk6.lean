import Derived.Test.YtijanegfgaphoaaGreatDoorPk5
/- The engine, part 12: regions that draw their order, at any order. -/
set_option linter.unusedVariables false
set_option linter.unusedSimpArgs false
namespace Go.Eng

/-! ### What must come before -/

def ancOf (ds : List Nat) (o : Oper) : Nat :=
  o.after.toList.foldl (fun m e => if Region.binds .any e then m ||| (2 ^ e.on ||| (ds[e.on]?).getD 0) else m) 0

def ancsGo : List Oper → List Nat → List Nat
  | [], ds => ds
  | o :: l, ds => ancsGo l (ds ++ [ancOf ds o])

def ancs (l : List Oper) : List Nat := ancsGo l []

theorem ancsGo_pre : ∀ (l : List Oper) (ds : List Nat) (i : Nat), i < ds.length → (ancsGo l ds)[i]? = ds[i]? := by
  intro l
  induction l with
  | nil => intro ds i _; rfl
  | cons o l ih =>
    intro ds i hi
    simp only [ancsGo]
    rw [ih _ i (by simp; omega), List.getElem?_append_left hi]

theorem ancsGo_get : ∀ (l : List Oper) (ds : List Nat) (k : Nat) (o : Oper), l[k]? = some o → ∃ ds', (∀ j, j < ds.length + k → ds'[j]? = (ancsGo l ds)[j]?) ∧ ds'.length = ds.length + k ∧ (ancsGo l ds)[ds.length + k]? = some (ancOf ds' o) := by
  intro l
  induction l with
  | nil => intro ds k o h; simp at h
  | cons x l ih =>
    intro ds k o h
    cases k with
    | zero =>
      simp at h; subst h
      refine ⟨ds, fun j hj => ?_, rfl, ?_⟩
      · simp only [ancsGo]
        rw [ancsGo_pre _ _ j (by simp; omega), List.getElem?_append_left (by omega)]
      · simp only [ancsGo]
        rw [ancsGo_pre _ _ _ (by simp)]
        simp
    | succ k =>
      obtain ⟨ds', h1, h2, h3⟩ := ih (ds ++ [ancOf ds x]) k o (by simpa using h)
      simp only [List.length_append, List.length_cons, List.length_nil, Nat.zero_add] at h1 h2 h3
      refine ⟨ds', fun j hj => ?_, by omega, ?_⟩
      · simp only [ancsGo]; exact h1 j (by omega)
      · simp only [ancsGo]; rw [show ds.length + (k + 1) = ds.length + 1 + k by omega]; exact h3

theorem fold_bit (ds : List Nat) (j : Nat) : ∀ (l : List Edge) (m : Nat), (l.foldl (fun m e => if Region.binds .any e then m ||| (2 ^ e.on ||| (ds[e.on]?).getD 0) else m) m).testBit j = true →
    m.testBit j = true ∨ ∃ e ∈ l, Region.binds .any e = true ∧ (j = e.on ∨ ((ds[e.on]?).getD 0).testBit j = true) := by
  intro l
  induction l with
  | nil => intro m h; exact .inl h
  | cons e l ih =>
    intro m h
    simp only [List.foldl_cons] at h
    rcases ih _ h with h | ⟨e', h1, h2⟩
    · split at h
      · rename_i hb
        rw [Nat.testBit_or, Nat.testBit_or, Bool.or_eq_true, Bool.or_eq_true] at h
        rcases h with h | h | h
        · exact .inl h
        · rw [Nat.testBit_two_pow] at h
          exact .inr ⟨e, by simp, hb, .inl (by simpa [eq_comm] using h)⟩
        · exact .inr ⟨e, by simp, hb, .inr h⟩
      · exact .inl h
    · exact .inr ⟨e', by simp [h1], h2⟩

theorem anc_spec {l : List Oper} {i j : Nat} {o : Oper} (ho : l[i]? = some o) (h : (((ancs l)[i]?).getD 0).testBit j = true) :
    ∃ e ∈ o.after, Region.binds .any e = true ∧ (j = e.on ∨ (e.on < i ∧ (((ancs l)[e.on]?).getD 0).testBit j = true)) := by
  obtain ⟨ds, h1, h2, h3⟩ := ancsGo_get l [] i o ho
  simp only [List.length_nil, Nat.zero_add] at h1 h2 h3
  unfold ancs at h ⊢
  rw [h3] at h
  simp only [Option.getD_some] at h
  unfold ancOf at h
  rcases fold_bit ds j _ _ h with h | ⟨e, he, hb, hj⟩
  · simp at h
  · refine ⟨e, by simpa using he, hb, ?_⟩
    rcases hj with rfl | hj
    · exact .inl rfl
    · by_cases hlt : e.on < i
      · rw [h1 _ hlt] at hj; exact .inr ⟨hlt, hj⟩
      · rw [List.getElem?_eq_none (by omega)] at hj; simp at hj

/-- What has been done holds all that had to come before it. -/
def Closed (ops : Array Oper) (L : Nat → Bool) : Prop :=
  ∀ (i : Nat) (o : Oper), ops[i]? = some o → L i = true → ∀ e ∈ o.after, Region.binds .any e = true → L e.on = true

theorem Closed.anc {ops : Array Oper} {L : Nat → Bool} (hL : Closed ops L) {i : Nat} {o : Oper} (ho : ops[i]? = some o) (hdeps : ∀ e ∈ o.after, Region.binds .any e = true → L e.on = true) :
    ∀ j, (((ancs ops.toList)[i]?).getD 0).testBit j = true → L j = true := by
  induction i using Nat.strongRecOn generalizing o with
  | _ i ih =>
    intro j hj
    obtain ⟨e, he, hb, hje⟩ := anc_spec (by simpa using ho) hj
    rcases hje with rfl | ⟨hlt, hj'⟩
    · exact hdeps e he hb
    · have hle := hdeps e he hb
      cases hoe : ops[e.on]? with
      | none =>
        exfalso
        have hlt' : ¬ e.on < ops.size := by
          intro hh; rw [Array.getElem?_eq_getElem hh] at hoe; cases hoe
        have hi := (Array.getElem?_eq_some_iff.1 ho).1
        omega
      | some oe => exact ih e.on hlt hoe (fun e' he' hb' => hL e.on oe hoe hle e' he' hb') j hj'

/-! ### The run in the order of the text -/

structure TR where
  env : List Value
  h : AH
  w : Bool
  k : Bool
  v : Value

inductive Fin' where
  | norm (env : List Value) (h : AH)
  | pan (v : Value) (h : AH)

def cons1 (t : TR) (x : List TR × Fin') : List TR × Fin' := (t :: x.1, x.2)

def trace (P : Program) (F : FT) (keep : Bool) (ops : Array Oper) : List Oper → List Value → AH → Option (List TR × Fin')
  | [], env, h => some ([], .norm env h)
  | o :: l, env, h =>
    match wantA ops env o with
    | some false => (trace P F keep ops l (putv env o.dst undef) h).map (cons1 ⟨env, h, false, false, undef⟩)
    | some true =>
      match aread P (ev env) h h.length o with
      | some (v, none) => (trace P F keep ops l (putv env o.dst v) h).map (cons1 ⟨env, h, true, false, v⟩)
      | _ =>
        match aopv P F keep env h o with
        | some (.ret v, h') => (trace P F keep ops l (putv env o.dst v) h').map (cons1 ⟨env, h, true, true, v⟩)
        | some (.pan v, h') => some ([⟨env, h, true, true, v⟩], .pan v h')
        | none => none
    | none => none

/-- The environment and the heap behind a place. -/
def after1 (trs : List TR) (fin : Fin') (i : Nat) : List Value × AH :=
  match trs[i]? with
  | some t => (t.env, t.h)
  | none => match fin with
    | .norm env h => (env, h)
    | .pan _ h => ([], h)

/-- What is known of a place of the run. -/
def StepF (P : Program) (F : FT) (keep : Bool) (ops : Array Oper) (o : Oper) (t : TR) (nx : List Value × AH) (last : Bool) (fin : Fin') : Prop :=
  wantA ops t.env o = some t.w ∧
  (t.w = false → t.k = false ∧ t.v = undef ∧ nx = (putv t.env o.dst t.v, t.h)) ∧
  (t.w = true → t.k = false → aread P (ev t.env) t.h t.h.length o = some (t.v, none) ∧ nx = (putv t.env o.dst t.v, t.h)) ∧
  (t.w = true → t.k = true → (aopv P F keep t.env t.h o = some (.ret t.v, nx.2) ∧ nx.1 = putv t.env o.dst t.v) ∨
    (last = true ∧ ∃ v h', fin = .pan v h' ∧ aopv P F keep t.env t.h o = some (.pan v, h')))

theorem trace_ok {P : Program} {F : FT} {keep : Bool} {ops : Array Oper} : ∀ (l : List Oper) (env : List Value) (h : AH) (trs : List TR) (fin : Fin'), trace P F keep ops l env h = some (trs, fin) →
    after1 trs fin 0 = (env, h) ∨ (trs = [] ∧ l ≠ []) := by
  intro l env h trs fin he
  cases l with
  | nil => cases he; exact .inl rfl
  | cons o l =>
    simp only [trace] at he
    have go : ∀ {e h2 t}, t.env = env → t.h = h → (trace P F keep ops l e h2).map (cons1 t) = some (trs, fin) → after1 trs fin 0 = (env, h) := by
      intro e h2 t h3 h4 hh
      obtain ⟨⟨trs', fin'⟩, h1, h2⟩ := Option.map_eq_some_iff.1 hh
      simp only [cons1, Prod.mk.injEq] at h2
      obtain ⟨rfl, rfl⟩ := h2
      simp [after1, h3, h4]
    split at he
    · exact .inl (go rfl rfl he)
    · split at he
      · exact .inl (go rfl rfl he)
      · split at he
        · exact .inl (go rfl rfl he)
        · cases he; exact .inl rfl
        · cases he
    · cases he

theorem trace_len {P : Program} {F : FT} {keep : Bool} {ops : Array Oper} : ∀ (l : List Oper) (env : List Value) (h : AH) (trs : List TR) (fin : Fin'), trace P F keep ops l env h = some (trs, fin) →
    (∃ e2 h2, fin = .norm e2 h2 ∧ trs.length = l.length) ∨ (∃ v h2, fin = .pan v h2 ∧ 0 < trs.length ∧ trs.length ≤ l.length) := by
  intro l
  induction l with
  | nil => intro env h trs fin he; cases he; exact .inl ⟨_, _, rfl, rfl⟩
  | cons o l ih =>
    intro env h trs fin he
    simp only [trace] at he
    have rec1 : ∀ {env h t}, (trace P F keep ops l env h).map (cons1 t) = some (trs, fin) → (∃ e2 h2, fin = .norm e2 h2 ∧ trs.length = (o :: l).length) ∨ (∃ v h2, fin = .pan v h2 ∧ 0 < trs.length ∧ trs.length ≤ (o :: l).length) := by
      intro env h t hh
      obtain ⟨⟨trs', fin'⟩, h1, h2⟩ := Option.map_eq_some_iff.1 hh
      simp only [cons1, Prod.mk.injEq] at h2
      obtain ⟨rfl, rfl⟩ := h2
      rcases ih _ _ _ _ h1 with ⟨e2, h2, e, hl⟩ | ⟨v, h2, e, hl, hl'⟩
      · exact .inl ⟨e2, h2, e, by simp [hl]⟩
      · exact .inr ⟨v, h2, e, by simp, by simpa using hl'⟩
    split at he
    · exact rec1 he
    · split at he
      · exact rec1 he
      · split at he
        · exact rec1 he
        · cases he; exact .inr ⟨_, _, rfl, by simp, by simp⟩
        · cases he
    · cases he

theorem trace_step {P : Program} {F : FT} {keep : Bool} {ops : Array Oper} : ∀ (l : List Oper) (env : List Value) (h : AH) (trs : List TR) (fin : Fin'), trace P F keep ops l env h = some (trs, fin) →
    ∀ (i : Nat) (t : TR) (o : Oper), trs[i]? = some t → l[i]? = some o → StepF P F keep ops o t (after1 trs fin (i + 1)) (decide (i + 1 = trs.length)) fin := by
  intro l
  induction l with
  | nil => intro env h trs fin he i t o hi; cases he; simp at hi
  | cons o l ih =>
    intro env h trs fin he i t o' hi ho
    simp only [trace] at he
    have aft : ∀ {env h t0 trs' fin'}, trace P F keep ops l env h = some (trs', fin') → after1 (t0 :: trs') fin' 1 = (env, h) := by
      intro env h t0 trs' fin' h1
      have : after1 (t0 :: trs') fin' 1 = after1 trs' fin' 0 := by simp [after1]
      rw [this]
      rcases trace_ok _ _ _ _ _ h1 with h2 | ⟨h2, h3⟩
      · exact h2
      · rcases trace_len _ _ _ _ _ h1 with ⟨_, _, _, hl⟩ | ⟨_, _, _, hl, _⟩
        · rw [h2] at hl; exact absurd (List.length_eq_zero_iff.1 hl.symm) h3
        · rw [h2] at hl; simp at hl
    have rec1 : ∀ {env h t0 trs' fin'}, trace P F keep ops l env h = some (trs', fin') → trs = t0 :: trs' → fin = fin' → 0 < i → StepF P F keep ops o' t (after1 trs fin (i + 1)) (decide (i + 1 = trs.length)) fin := by
      intro env h t0 trs' fin' h1 e1 e2 hpos
      subst e1; subst e2
      obtain ⟨i, rfl⟩ : ∃ k, i = k + 1 := ⟨i - 1, by omega⟩
      have := ih _ _ _ _ h1 i t o' (by simpa using hi) (by simpa using ho)
      have e3 : after1 (t0 :: trs') fin (i + 1 + 1) = after1 trs' fin (i + 1) := by simp [after1]
      have e4 : decide (i + 1 + 1 = (t0 :: trs').length) = decide (i + 1 = trs'.length) := by simp
      rw [e3, e4]; exact this
    split at he
    · rename_i hw
      obtain ⟨⟨trs', fin'⟩, h1, h2⟩ := Option.map_eq_some_iff.1 he
      simp only [cons1, Prod.mk.injEq] at h2
      obtain ⟨rfl, rfl⟩ := h2
      cases i with
      | zero =>
        simp at hi ho; subst hi; subst ho
        rw [aft h1]
        refine ⟨hw, fun _ => ⟨rfl, rfl, rfl⟩, ?_, ?_⟩ <;> (intro hh; simp at hh)
      | succ i => exact rec1 h1 rfl rfl (by omega)
    · rename_i hw
      split at he
      · rename_i v hrd
        obtain ⟨⟨trs', fin'⟩, h1, h2⟩ := Option.map_eq_some_iff.1 he
        simp only [cons1, Prod.mk.injEq] at h2
        obtain ⟨rfl, rfl⟩ := h2
        cases i with
        | zero =>
          simp at hi ho; subst hi; subst ho
          rw [aft h1]
          refine ⟨hw, ?_, fun _ _ => ⟨hrd, rfl⟩, ?_⟩
          · intro hh; simp at hh
          · intro _ hh; simp at hh
        | succ i => exact rec1 h1 rfl rfl (by omega)
      · split at he
        · rename_i v h' hv
          obtain ⟨⟨trs', fin'⟩, h1, h2⟩ := Option.map_eq_some_iff.1 he
          simp only [cons1, Prod.mk.injEq] at h2
          obtain ⟨rfl, rfl⟩ := h2
          cases i with
          | zero =>
            simp at hi ho; subst hi; subst ho
            rw [aft h1]
            refine ⟨hw, ?_, ?_, fun _ _ => .inl ⟨hv, rfl⟩⟩
            · intro hh; simp at hh
            · intro _ hh; simp at hh
          | succ i => exact rec1 h1 rfl rfl (by omega)
        · rename_i v h' hv
          cases he
          cases i with
          | zero =>
            simp at hi ho; subst hi; subst ho
            refine ⟨hw, ?_, ?_, fun _ _ => .inr ⟨by simp, v, h', rfl, hv⟩⟩
            · intro hh; simp at hh
            · intro _ hh; simp at hh
          | succ i => simp at hi
        · cases he
    · cases he

theorem putv_length (env : List Value) (dst : Option Tmp) (v : Value) : (putv env dst v).length = env.length := by cases dst <;> simp [putv]

theorem trace_envlen {P : Program} {F : FT} {keep : Bool} {ops : Array Oper} : ∀ (l : List Oper) (env : List Value) (h : AH) (trs : List TR) (fin : Fin'), trace P F keep ops l env h = some (trs, fin) →
    ∀ (i : Nat) (t : TR), trs[i]? = some t → t.env.length = env.length := by
  intro l
  induction l with
  | nil => intro env h trs fin he i t hi; cases he; simp at hi
  | cons o l ih =>
    intro env h trs fin he i t hi
    simp only [trace] at he
    have go : ∀ {v h2 t0}, t0.env = env → (trace P F keep ops l (putv env o.dst v) h2).map (cons1 t0) = some (trs, fin) → t.env.length = env.length := by
      intro v h2 t0 h3 hh
      obtain ⟨⟨trs', fin'⟩, h1, h2⟩ := Option.map_eq_some_iff.1 hh
      simp only [cons1, Prod.mk.injEq] at h2
      obtain ⟨rfl, rfl⟩ := h2
      cases i with
      | zero => simp at hi; subst hi; rw [h3]
      | succ i => rw [ih _ _ _ _ h1 i t (by simpa using hi), putv_length]
    split at he
    · exact go rfl he
    · split at he
      · exact go rfl he
      · split at he
        · exact go rfl he
        · cases he
          cases i with
          | zero => simp at hi; subst hi; rfl
          | succ i => simp at hi
        · cases he
    · cases he

/-- The value of a temporary in the text's order: of the last place that wrote it, or as it was. -/
theorem trace_env {P : Program} {F : FT} {keep : Bool} {ops : Array Oper} {l : List Oper} {env : List Value} {h : AH} {trs : List TR} {fin : Fin'} (he : trace P F keep ops l env h = some (trs, fin)) :
    ∀ (i : Nat), (i < trs.length ∨ (i = trs.length ∧ ∃ e2 h2, fin = .norm e2 h2)) → ∀ (t : Nat) (v : Value), (after1 trs fin i).1[t]? = some v →
    (∃ j tj oj, j < i ∧ trs[j]? = some tj ∧ l[j]? = some oj ∧ oj.dst = some t ∧ tj.v = v ∧ t < env.length) ∨ ((∀ j oj, j < i → l[j]? = some oj → oj.dst ≠ some t) ∧ env[t]? = some v) := by
  intro i
  induction i with
  | zero =>
    intro hi t v hv
    have : after1 trs fin 0 = (env, h) := by
      rcases trace_ok _ _ _ _ _ he with h2 | ⟨h2, h3⟩
      · exact h2
      · rcases trace_len _ _ _ _ _ he with ⟨_, _, _, hl⟩ | ⟨_, _, _, hl, _⟩
        · rw [h2] at hl; exact absurd (List.length_eq_zero_iff.1 hl.symm) h3
        · rw [h2] at hl; simp at hl
    rw [this] at hv
    exact .inr ⟨fun j oj h => by omega, hv⟩
  | succ i ih =>
    intro hi t v hv
    have hi' : i < trs.length := by rcases hi with hi | ⟨hi, _⟩ <;> omega
    have hll : trs.length ≤ l.length := by rcases trace_len _ _ _ _ _ he with ⟨_, _, _, hl⟩ | ⟨_, _, _, _, hl⟩ <;> omega
    have htr : trs[i]? = some trs[i] := by simp [hi']
    have ho : l[i]? = some l[i] := by simp
    have st := trace_step _ _ _ _ _ he i _ _ htr ho
    have haft : (after1 trs fin i).1 = trs[i].env := by simp [after1, hi']
    have hnx : (after1 trs fin (i + 1)).1 = putv trs[i].env (l[i]'(by omega)).dst trs[i].v := by
      obtain ⟨s1, s2, s3, s4⟩ := st
      cases hw : trs[i].w with
      | false => rw [(s2 hw).2.2]
      | true =>
        cases hk : trs[i].k with
        | false => rw [(s3 hw hk).2]
        | true =>
          rcases s4 hw hk with ⟨_, h4⟩ | ⟨hlast, v', h', hfin, _⟩
          · exact h4
          · exfalso
            simp at hlast
            rcases hi with hi | ⟨_, e2, h2, e⟩
            · omega
            · rw [e] at hfin; cases hfin
    have hlen : trs[i].env.length = env.length := trace_envlen _ _ _ _ _ he i _ htr
    rw [hnx] at hv
    by_cases hd : (l[i]'(by omega)).dst = some t
    · simp only [putv, hd] at hv
      rw [List.getElem?_set] at hv
      simp only [if_true] at hv
      split at hv
      · rename_i hlt
        cases hv
        exact .inl ⟨i, trs[i], l[i], by omega, htr, ho, hd, rfl, by omega⟩
      · cases hv
    · have hv' : trs[i].env[t]? = some v := by
        unfold putv at hv
        split at hv
        · rename_i d hd'
          rw [List.getElem?_set_ne (fun e => hd (by rw [hd', e]))] at hv; exact hv
        · exact hv
      rcases ih (.inl hi') t v (by rw [haft]; exact hv') with ⟨j, tj, oj, h1, h2⟩ | ⟨h1, h2⟩
      · exact .inl ⟨j, tj, oj, by omega, h2⟩
      · refine .inr ⟨fun j oj hj hoj => ?_, h2⟩
        by_cases e : j = i
        · subst e; rw [ho] at hoj; cases hoj; exact hd
        · exact h1 j oj (by omega) hoj

end Go.Eng

/- The engine, part 13: regions that draw their order, at any order: the theorem. -/
set_option linter.unusedVariables false
set_option linter.unusedSimpArgs false
namespace Go.Eng

/-! ### Equal values -/

def veq : Nat → Value → Value → Bool
  | _, .bool a, .bool b => a == b
  | _, .int j a, .int k b => j == k && a == b
  | _, .string a, .string b => a.data.toList == b.data.toList
  | _, .pointer a, .pointer b => a == b
  | _, .slice a n c, .slice b m d => a == b && n == m && c == d
  | _, .map a, .map b => a == b
  | _, .nilFunc, .nilFunc => true
  | _, .nilIface, .nilIface => true
  | n + 1, .iface t v, .iface u w => t == u && veq n v w
  | n + 1, .agg a, .agg b => veqs n a.toList b.toList
  | n + 1, .tuple a, .tuple b => veqs n a.toList b.toList
  | n + 1, .func f a c, .func g b d => f == g && veqs n a.toList b.toList && veqs n c.toList d.toList
  | _, _, _ => false
where
  veqs (n : Nat) : List Value → List Value → Bool
    | [], [] => true
    | x :: l, y :: m => veq n x y && veqs n l m
    | _, _ => false

theorem bytes_eq {a b : ByteArray} (h : (a.data.toList == b.data.toList) = true) : a = b := by
  have := beq_iff_eq.1 h
  cases a; cases b
  simp at this
  rw [this]

theorem veqs_eq {n : Nat} (ih : ∀ v w, veq n v w = true → v = w) : ∀ (l m : List Value), veq.veqs n l m = true → l = m := by
  intro l
  induction l with
  | nil => intro m h; cases m with
    | nil => rfl
    | cons => simp [veq.veqs] at h
  | cons x l ihl =>
    intro m h
    cases m with
    | nil => simp [veq.veqs] at h
    | cons y m =>
      simp only [veq.veqs, Bool.and_eq_true] at h
      rw [ih x y h.1, ihl m h.2]

theorem veq_eq : ∀ (n : Nat) (v w : Value), veq n v w = true → v = w := by
  intro n
  induction n with
  | zero =>
    intro v w h
    unfold veq at h
    split at h <;> first | rfl | (rw [bytes_eq h]; done) | (simp only [Bool.and_eq_true, beq_iff_eq] at h; simp_all; done) | (simp at h; done) | (rename_i e; cases e)
  | succ n ih =>
    intro v w h
    unfold veq at h
    split at h
    case h_9 k t v' u w' e =>
      cases e
      simp only [Bool.and_eq_true, beq_iff_eq] at h
      rw [h.1, ih _ _ h.2]
    case h_10 k a b e =>
      cases e
      rw [Array.ext' (veqs_eq ih _ _ h)]
    case h_11 k a b e =>
      cases e
      rw [Array.ext' (veqs_eq ih _ _ h)]
    case h_12 k f a c g b d e =>
      cases e
      simp only [Bool.and_eq_true, beq_iff_eq] at h
      rw [h.1.1, Array.ext' (veqs_eq ih _ _ h.1.2), Array.ext' (veqs_eq ih _ _ h.2)]
    all_goals first | rfl | (rw [bytes_eq h]; done) | (simp only [Bool.and_eq_true, beq_iff_eq] at h; simp_all; done) | (simp at h; done)

/-! ### The checks -/

def bit (A : List Nat) (i j : Nat) : Bool := ((A[i]?).getD 0).testBit j

def tempsOk (ops : Array Oper) (l : List Oper) (A : List Nat) : Bool :=
  l.zipIdx.all fun (o, i) =>
    o.after.all (fun e => !Region.binds .any e || decide (e.on < i)) &&
    l.zipIdx.all fun (o', j) => i == j || match o'.dst with
      | none => true
      | some t => o.dst != some t && (!(o.looksAt ops).contains t || (if j < i then bit A i j else bit A j i))

/-- How many operations come to an end. -/
def many (trs : List TR) : Fin' → Nat
  | .norm _ _ => trs.length
  | .pan _ _ => trs.length - 1

/-- An operation that lays a block and looks at no block. -/
def allocOp (o : Oper) : Bool :=
  match o.op with
  | .alloc _ | .box _ _ | .buildSlice _ _ _ | .makeMap _ none => true
  | _ => false

theorem aread_alloc {P : Program} {env : List Value} {h h2 : AH} {m : Nat} {o : Oper} (ha : allocOp o = true) : aread P (ev env) h m o = aread P (ev env) h2 m o := by
  obtain ⟨dst, op, type, pos, after, guard⟩ := o
  unfold allocOp at ha
  simp only at ha
  split at ha
  · rfl
  · rfl
  · rfl
  · rfl
  · cases ha

/-- A place that lays a block and does nothing else: it may be done earlier. -/
def alOf (P : Program) (trs : List TR) (ops : Array Oper) (j : Nat) : Bool :=
  match trs[j]?, ops[j]? with
  | some t, some o => t.w && t.k && allocOp o && match aread P (ev t.env) t.h t.h.length o with
    | some (_, some _) => true
    | _ => false
  | _, _ => false

def chainOk (n : Nat) (A : List Nat) (al : Nat → Bool) (trs : List TR) (fin : Fin') : Bool :=
  trs.zipIdx.all (fun (t, j) => !t.k || al j || trs.zipIdx.all fun (t', i) => !t'.k || !decide (i < j) || bit A j i) &&
  match fin with
  | .norm _ _ => true
  | .pan _ _ => (List.range n).all fun j => !decide (trs.length ≤ j) || bit A j (trs.length - 1)

/-- What hangs on a block that is laid hangs on all writers ahead of it; and the heaps grow. -/
def flushOk (n : Nat) (A : List Nat) (al : Nat → Bool) (trs : List TR) : Bool :=
  trs.zipIdx.all fun (t, a) => !al a || (trs.zipIdx.all (fun (t', j) => !decide (j ≤ a) || decide (t'.h.length ≤ t.h.length)) &&
    (List.range n).all fun i => !bit A i a || trs.zipIdx.all fun (t', j) => !t'.k || !decide (j < a) || bit A i j)

/-- The place behind the last writer ahead of a place. -/
def own (trs : List TR) (i : Nat) : Nat := (trs.take i).zipIdx.foldl (fun p (t, j) => if t.k then j + 1 else p) 0

def readAt (P : Program) (A : List Nat) (trs : List TR) (fin : Fin') (o : Oper) (t : TR) (i p : Nat) : Bool :=
  p == own trs i ||
  trs.zipIdx.any (fun (t', j) => t'.k && bit A i j && !decide (j < p)) ||
  trs.zipIdx.any (fun (t', j) => t'.k && decide (j < p) && bit A j i) ||
  match aread P (ev t.env) (after1 trs fin p).2 (after1 trs fin p).2.length o with
  | some (v, none) => veq 8 v t.v
  | _ => false

def readsOk (P : Program) (l : List Oper) (A : List Nat) (trs : List TR) (fin : Fin') : Bool :=
  (l.zip trs).zipIdx.all fun ((o, t), i) => !t.w || t.k || (readAt P A trs fin o t i 0 && trs.zipIdx.all fun (t', j) => !t'.k || !decide (j < many trs fin) || readAt P A trs fin o t i (j + 1))

def adraw (P : Program) (keep : Bool) (F : FT) : DT := fun ops s =>
  match trace P F keep ops ops.toList s.env s.h with
  | some (trs, fin) =>
    if tempsOk ops ops.toList (ancs ops.toList) && chainOk ops.size (ancs ops.toList) (alOf P trs ops) trs fin && flushOk ops.size (ancs ops.toList) (alOf P trs ops) trs && readsOk P ops.toList (ancs ops.toList) trs fin then
      match fin with
      | .norm env h => some (.norm, ⟨env, h, s.ds⟩)
      | .pan v h => some (.pan v, ⟨[], h, s.ds⟩)
    else none
  | none => none

/-! ### What the checks say -/

theorem all_zipIdx {α : Type} {l : List α} {f : α × Nat → Bool} (h : l.zipIdx.all f = true) {i : Nat} {x : α} (hx : l[i]? = some x) : f (x, i) = true := by
  refine List.all_eq_true.1 h (x, i) ?_
  rw [List.mem_iff_getElem?]
  exact ⟨i, by rw [List.getElem?_zipIdx, hx]; simp⟩

theorem any_zipIdx {α : Type} {l : List α} {f : α × Nat → Bool} (h : l.zipIdx.any f = true) : ∃ i x, l[i]? = some x ∧ f (x, i) = true := by
  obtain ⟨⟨x, i⟩, h1, h2⟩ := List.any_eq_true.1 h
  rw [List.mem_iff_getElem?] at h1
  obtain ⟨k, hk⟩ := h1
  rw [List.getElem?_zipIdx] at hk
  cases hx : l[k]? with
  | none => simp [hx] at hk
  | some y => simp [hx] at hk; obtain ⟨rfl, rfl⟩ := hk; exact ⟨k, y, hx, h2⟩

/-- The same of reads, as a proposition. -/
def ReadsP (P : Program) (l : List Oper) (A : List Nat) (trs : List TR) (fin : Fin') : Prop :=
  ∀ (i : Nat) (o : Oper) (t : TR) (p : Nat), l[i]? = some o → trs[i]? = some t → t.w = true → t.k = false →
    (p = 0 ∨ ∃ j tj, p = j + 1 ∧ trs[j]? = some tj ∧ tj.k = true ∧ j < many trs fin) → p ≠ own trs i →
    (∀ (j : Nat) (tj : TR), trs[j]? = some tj → tj.k = true → bit A i j = true → j < p) →
    (∀ (j : Nat) (tj : TR), trs[j]? = some tj → tj.k = true → j < p → bit A j i = false) →
    aread P (ev t.env) (after1 trs fin p).2 (after1 trs fin p).2.length o = some (t.v, none)

theorem readsOk_P {P : Program} {l : List Oper} {A : List Nat} {trs : List TR} {fin : Fin'} (h : readsOk P l A trs fin = true) : ReadsP P l A trs fin := by
  intro i o t p hl ht hw hk hp hpo h1 h2
  have hall := all_zipIdx h (i := i) (x := (o, t)) (by rw [List.getElem?_zip_eq_some]; exact ⟨hl, ht⟩)
  simp only [hw, hk, Bool.not_true, Bool.false_or, Bool.and_eq_true] at hall
  have hra : readAt P A trs fin o t i p = true := by
    rcases hp with hp0 | ⟨j, tj, hpj, htj, hkj, hm⟩
    · rw [hp0]; exact hall.1
    · have := all_zipIdx hall.2 htj
      simp only [hkj, Bool.not_true, Bool.false_or, Bool.or_eq_true, Bool.not_eq_true', decide_eq_false_iff_not] at this
      rw [hpj]
      rcases this with h3 | h3
      · exact absurd hm h3
      · exact h3
  unfold readAt at hra
  simp only [Bool.or_eq_true, beq_iff_eq] at hra
  rcases hra with ((h3 | h3) | h3) | h3
  · exact absurd h3 hpo
  · exfalso
    obtain ⟨j, tj, e1, e2⟩ := any_zipIdx h3
    simp only [Bool.and_eq_true, Bool.not_eq_true', decide_eq_false_iff_not] at e2
    exact e2.2 (h1 j tj e1 e2.1.1 e2.1.2)
  · exfalso
    obtain ⟨j, tj, e1, e2⟩ := any_zipIdx h3
    simp only [Bool.and_eq_true, decide_eq_true_eq] at e2
    have := h2 j tj e1 e2.1.1 e2.1.2
    rw [e2.2] at this; cases this
  · split at h3
    · rename_i v hav
      rw [veq_eq 8 v t.v h3] at hav
      exact hav
    · cases h3

theorem own_spec (trs : List TR) : ∀ (i : Nat), i ≤ trs.length → (∀ j tj, trs[j]? = some tj → tj.k = true → j < i → j < own trs i) ∧ own trs i ≤ i ∧ (own trs i = 0 ∨ ∃ j tj, own trs i = j + 1 ∧ trs[j]? = some tj ∧ tj.k = true) := by
  intro i
  induction i with
  | zero => intro _; exact ⟨fun j tj _ _ h => by omega, by simp [own], .inl (by simp [own])⟩
  | succ i ih =>
    intro hi
    obtain ⟨h1, h2, h3⟩ := ih (by omega)
    have hlt : i < trs.length := by omega
    have e : own trs (i + 1) = if trs[i].k then i + 1 else own trs i := by
      unfold own
      rw [List.take_succ_eq_append_getElem hlt, List.zipIdx_append, List.foldl_append]
      have hm : min i trs.length = i := Nat.min_eq_left (by omega)
      simp [hm]
    rw [e]
    cases hk : trs[i].k with
    | true =>
      simp only [if_true]
      exact ⟨fun j tj _ _ h => by omega, Nat.le_refl _, .inr ⟨i, trs[i], rfl, by simp [hlt], hk⟩⟩
    | false =>
      simp only [Bool.false_eq_true, if_false]
      refine ⟨fun j tj a b h => ?_, by omega, h3⟩
      by_cases hj : j = i
      · subst hj; rw [List.getElem?_eq_getElem hlt] at a; cases a; rw [hk] at b; cases b
      · exact h1 j tj a b (by omega)

/-- Where nothing writes the heap is one. -/
theorem heap_const {P : Program} {F : FT} {keep : Bool} {ops : Array Oper} {l : List Oper} {env : List Value} {h : AH} {trs : List TR} {fin : Fin'} (he : trace P F keep ops l env h = some (trs, fin)) {p : Nat} :
    ∀ (q : Nat), p ≤ q → q ≤ trs.length → (q = trs.length → ∃ e2 h2, fin = .norm e2 h2) → (∀ j tj, trs[j]? = some tj → p ≤ j → j < q → tj.k = false) → (after1 trs fin q).2 = (after1 trs fin p).2 := by
  intro q
  induction q with
  | zero => intro hp _ _ _; rw [Nat.le_zero.1 hp]
  | succ q ih =>
    intro hp hq hnorm hno
    by_cases e : p = q + 1
    · rw [e]
    · have hlt : q < trs.length := by omega
      have hll : trs.length ≤ l.length := by rcases trace_len _ _ _ _ _ he with ⟨_, _, _, hl⟩ | ⟨_, _, _, _, hl⟩ <;> omega
      rw [← ih (by omega) (by omega) (fun h => by omega) (fun j tj a b c => hno j tj a b (by omega))]
      have st := trace_step _ _ _ _ _ he q trs[q] l[q] (by simp [hlt]) (by simp)
      have hk := hno q trs[q] (by simp [hlt]) (by omega) (by omega)
      have haft : (after1 trs fin q).2 = trs[q].h := by simp [after1, hlt]
      rw [haft]
      obtain ⟨s1, s2, s3, s4⟩ := st
      cases hw : trs[q].w with
      | false => rw [(s2 hw).2.2]
      | true => rw [(s3 hw hk).2]

end Go.Eng
