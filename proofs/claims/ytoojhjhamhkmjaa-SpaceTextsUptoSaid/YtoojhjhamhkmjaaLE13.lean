/- The engine, part 13: regions that draw their order, at any order: the theorem. -/
import Derived.Test.YtoojhjhamhkmjaaLE12
set_option linter.unusedVariables false
set_option linter.unusedSimpArgs false
namespace Go.Eng

/-! ### Equal values -/

def veq : Nat → Value → Value → Bool
  | _, .bool a, .bool b => a == b
  | _, .int j a, .int k b => j == k && a == b
  | _, .string a, .string b => a.data.toList == b.data.toList
  | _, .pointer a, .pointer b => a == b
  | _, .slice a n c, .slice b m d => a == b && n == m && c == d
  | _, .map a, .map b => a == b
  | _, .nilFunc, .nilFunc => true
  | _, .nilIface, .nilIface => true
  | n + 1, .iface t v, .iface u w => t == u && veq n v w
  | n + 1, .agg a, .agg b => veqs n a.toList b.toList
  | n + 1, .tuple a, .tuple b => veqs n a.toList b.toList
  | n + 1, .func f a c, .func g b d => f == g && veqs n a.toList b.toList && veqs n c.toList d.toList
  | _, _, _ => false
where
  veqs (n : Nat) : List Value → List Value → Bool
    | [], [] => true
    | x :: l, y :: m => veq n x y && veqs n l m
    | _, _ => false

theorem bytes_eq {a b : ByteArray} (h : (a.data.toList == b.data.toList) = true) : a = b := by
  have := beq_iff_eq.1 h
  cases a; cases b
  simp at this
  rw [this]

theorem veqs_eq {n : Nat} (ih : ∀ v w, veq n v w = true → v = w) : ∀ (l m : List Value), veq.veqs n l m = true → l = m := by
  intro l
  induction l with
  | nil => intro m h; cases m with
    | nil => rfl
    | cons => simp [veq.veqs] at h
  | cons x l ihl =>
    intro m h
    cases m with
    | nil => simp [veq.veqs] at h
    | cons y m =>
      simp only [veq.veqs, Bool.and_eq_true] at h
      rw [ih x y h.1, ihl m h.2]

theorem veq_eq : ∀ (n : Nat) (v w : Value), veq n v w = true → v = w := by
  intro n
  induction n with
  | zero =>
    intro v w h
    unfold veq at h
    split at h <;> first | rfl | (rw [bytes_eq h]; done) | (simp only [Bool.and_eq_true, beq_iff_eq] at h; simp_all; done) | (simp at h; done) | (rename_i e; cases e)
  | succ n ih =>
    intro v w h
    unfold veq at h
    split at h
    case h_9 k t v' u w' e =>
      cases e
      simp only [Bool.and_eq_true, beq_iff_eq] at h
      rw [h.1, ih _ _ h.2]
    case h_10 k a b e =>
      cases e
      rw [Array.ext' (veqs_eq ih _ _ h)]
    case h_11 k a b e =>
      cases e
      rw [Array.ext' (veqs_eq ih _ _ h)]
    case h_12 k f a c g b d e =>
      cases e
      simp only [Bool.and_eq_true, beq_iff_eq] at h
      rw [h.1.1, Array.ext' (veqs_eq ih _ _ h.1.2), Array.ext' (veqs_eq ih _ _ h.2)]
    all_goals first | rfl | (rw [bytes_eq h]; done) | (simp only [Bool.and_eq_true, beq_iff_eq] at h; simp_all; done) | (simp at h; done)

/-! ### The checks -/

def bit (A : List Nat) (i j : Nat) : Bool := ((A[i]?).getD 0).testBit j

def tempsOk (ops : Array Oper) (l : List Oper) (A : List Nat) : Bool :=
  l.zipIdx.all fun (o, i) =>
    o.after.all (fun e => !Region.binds .any e || decide (e.on < i)) &&
    l.zipIdx.all fun (o', j) => i == j || match o'.dst with
      | none => true
      | some t => o.dst != some t && (!(o.looksAt ops).contains t || (if j < i then bit A i j else bit A j i))

/-- How many operations come to an end. -/
def many (trs : List TR) : Fin' → Nat
  | .norm _ _ => trs.length
  | .pan _ _ => trs.length - 1

/-- An operation that lays a block and looks at no block. -/
def allocOp (o : Oper) : Bool :=
  match o.op with
  | .alloc _ | .box _ _ | .buildSlice _ _ _ | .makeMap _ none => true
  | _ => false

theorem aread_alloc {P : Program} {env : List Value} {h h2 : AH} {m : Nat} {o : Oper} (ha : allocOp o = true) : aread P (ev env) h m o = aread P (ev env) h2 m o := by
  obtain ⟨dst, op, type, pos, after, guard⟩ := o
  unfold allocOp at ha
  simp only at ha
  split at ha
  · rfl
  · rfl
  · rfl
  · rfl
  · cases ha

/-- A place that lays a block and does nothing else: it may be done earlier. -/
def alOf (P : Program) (trs : List TR) (ops : Array Oper) (j : Nat) : Bool :=
  match trs[j]?, ops[j]? with
  | some t, some o => t.w && t.k && allocOp o && match aread P (ev t.env) t.h t.h.length o with
    | some (_, some _) => true
    | _ => false
  | _, _ => false

def chainOk (n : Nat) (A : List Nat) (al : Nat → Bool) (trs : List TR) (fin : Fin') : Bool :=
  trs.zipIdx.all (fun (t, j) => !t.k || al j || trs.zipIdx.all fun (t', i) => !t'.k || !decide (i < j) || bit A j i) &&
  match fin with
  | .norm _ _ => true
  | .pan _ _ => (List.range n).all fun j => !decide (trs.length ≤ j) || bit A j (trs.length - 1)

/-- What hangs on a block that is laid hangs on all writers ahead of it; and the heaps grow. -/
def flushOk (n : Nat) (A : List Nat) (al : Nat → Bool) (trs : List TR) : Bool :=
  trs.zipIdx.all fun (t, a) => !al a || (trs.zipIdx.all (fun (t', j) => !decide (j ≤ a) || decide (t'.h.length ≤ t.h.length)) &&
    (List.range n).all fun i => !bit A i a || trs.zipIdx.all fun (t', j) => !t'.k || !decide (j < a) || bit A i j)

/-- The place behind the last writer ahead of a place. -/
def own (trs : List TR) (i : Nat) : Nat := (trs.take i).zipIdx.foldl (fun p (t, j) => if t.k then j + 1 else p) 0

def readAt (P : Program) (A : List Nat) (trs : List TR) (fin : Fin') (o : Oper) (t : TR) (i p : Nat) : Bool :=
  p == own trs i ||
  trs.zipIdx.any (fun (t', j) => t'.k && bit A i j && !decide (j < p)) ||
  trs.zipIdx.any (fun (t', j) => t'.k && decide (j < p) && bit A j i) ||
  match aread P (ev t.env) (after1 trs fin p).2 (after1 trs fin p).2.length o with
  | some (v, none) => veq 8 v t.v
  | _ => false

def readsOk (P : Program) (l : List Oper) (A : List Nat) (trs : List TR) (fin : Fin') : Bool :=
  (l.zip trs).zipIdx.all fun ((o, t), i) => !t.w || t.k || (readAt P A trs fin o t i 0 && trs.zipIdx.all fun (t', j) => !t'.k || !decide (j < many trs fin) || readAt P A trs fin o t i (j + 1))

def adraw (P : Program) (keep : Bool) (F : FT) : DT := fun ops s =>
  match trace P F keep ops ops.toList s.env s.h with
  | some (trs, fin) =>
    if tempsOk ops ops.toList (ancs ops.toList) && chainOk ops.size (ancs ops.toList) (alOf P trs ops) trs fin && flushOk ops.size (ancs ops.toList) (alOf P trs ops) trs && readsOk P ops.toList (ancs ops.toList) trs fin then
      match fin with
      | .norm env h => some (.norm, ⟨env, h, s.ds⟩)
      | .pan v h => some (.pan v, ⟨[], h, s.ds⟩)
    else none
  | none => none

/-! ### What the checks say -/

theorem all_zipIdx {α : Type} {l : List α} {f : α × Nat → Bool} (h : l.zipIdx.all f = true) {i : Nat} {x : α} (hx : l[i]? = some x) : f (x, i) = true := by
  refine List.all_eq_true.1 h (x, i) ?_
  rw [List.mem_iff_getElem?]
  exact ⟨i, by rw [List.getElem?_zipIdx, hx]; simp⟩

theorem any_zipIdx {α : Type} {l : List α} {f : α × Nat → Bool} (h : l.zipIdx.any f = true) : ∃ i x, l[i]? = some x ∧ f (x, i) = true := by
  obtain ⟨⟨x, i⟩, h1, h2⟩ := List.any_eq_true.1 h
  rw [List.mem_iff_getElem?] at h1
  obtain ⟨k, hk⟩ := h1
  rw [List.getElem?_zipIdx] at hk
  cases hx : l[k]? with
  | none => simp [hx] at hk
  | some y => simp [hx] at hk; obtain ⟨rfl, rfl⟩ := hk; exact ⟨k, y, hx, h2⟩

/-- The same of reads, as a proposition. -/
def ReadsP (P : Program) (l : List Oper) (A : List Nat) (trs : List TR) (fin : Fin') : Prop :=
  ∀ (i : Nat) (o : Oper) (t : TR) (p : Nat), l[i]? = some o → trs[i]? = some t → t.w = true → t.k = false →
    (p = 0 ∨ ∃ j tj, p = j + 1 ∧ trs[j]? = some tj ∧ tj.k = true ∧ j < many trs fin) → p ≠ own trs i →
    (∀ (j : Nat) (tj : TR), trs[j]? = some tj → tj.k = true → bit A i j = true → j < p) →
    (∀ (j : Nat) (tj : TR), trs[j]? = some tj → tj.k = true → j < p → bit A j i = false) →
    aread P (ev t.env) (after1 trs fin p).2 (after1 trs fin p).2.length o = some (t.v, none)

theorem readsOk_P {P : Program} {l : List Oper} {A : List Nat} {trs : List TR} {fin : Fin'} (h : readsOk P l A trs fin = true) : ReadsP P l A trs fin := by
  intro i o t p hl ht hw hk hp hpo h1 h2
  have hall := all_zipIdx h (i := i) (x := (o, t)) (by rw [List.getElem?_zip_eq_some]; exact ⟨hl, ht⟩)
  simp only [hw, hk, Bool.not_true, Bool.false_or, Bool.and_eq_true] at hall
  have hra : readAt P A trs fin o t i p = true := by
    rcases hp with hp0 | ⟨j, tj, hpj, htj, hkj, hm⟩
    · rw [hp0]; exact hall.1
    · have := all_zipIdx hall.2 htj
      simp only [hkj, Bool.not_true, Bool.false_or, Bool.or_eq_true, Bool.not_eq_true', decide_eq_false_iff_not] at this
      rw [hpj]
      rcases this with h3 | h3
      · exact absurd hm h3
      · exact h3
  unfold readAt at hra
  simp only [Bool.or_eq_true, beq_iff_eq] at hra
  rcases hra with ((h3 | h3) | h3) | h3
  · exact absurd h3 hpo
  · exfalso
    obtain ⟨j, tj, e1, e2⟩ := any_zipIdx h3
    simp only [Bool.and_eq_true, Bool.not_eq_true', decide_eq_false_iff_not] at e2
    exact e2.2 (h1 j tj e1 e2.1.1 e2.1.2)
  · exfalso
    obtain ⟨j, tj, e1, e2⟩ := any_zipIdx h3
    simp only [Bool.and_eq_true, decide_eq_true_eq] at e2
    have := h2 j tj e1 e2.1.1 e2.1.2
    rw [e2.2] at this; cases this
  · split at h3
    · rename_i v hav
      rw [veq_eq 8 v t.v h3] at hav
      exact hav
    · cases h3

theorem own_spec (trs : List TR) : ∀ (i : Nat), i ≤ trs.length → (∀ j tj, trs[j]? = some tj → tj.k = true → j < i → j < own trs i) ∧ own trs i ≤ i ∧ (own trs i = 0 ∨ ∃ j tj, own trs i = j + 1 ∧ trs[j]? = some tj ∧ tj.k = true) := by
  intro i
  induction i with
  | zero => intro _; exact ⟨fun j tj _ _ h => by omega, by simp [own], .inl (by simp [own])⟩
  | succ i ih =>
    intro hi
    obtain ⟨h1, h2, h3⟩ := ih (by omega)
    have hlt : i < trs.length := by omega
    have e : own trs (i + 1) = if trs[i].k then i + 1 else own trs i := by
      unfold own
      rw [List.take_succ_eq_append_getElem hlt, List.zipIdx_append, List.foldl_append]
      have hm : min i trs.length = i := Nat.min_eq_left (by omega)
      simp [hm]
    rw [e]
    cases hk : trs[i].k with
    | true =>
      simp only [if_true]
      exact ⟨fun j tj _ _ h => by omega, Nat.le_refl _, .inr ⟨i, trs[i], rfl, by simp [hlt], hk⟩⟩
    | false =>
      simp only [Bool.false_eq_true, if_false]
      refine ⟨fun j tj a b h => ?_, by omega, h3⟩
      by_cases hj : j = i
      · subst hj; rw [List.getElem?_eq_getElem hlt] at a; cases a; rw [hk] at b; cases b
      · exact h1 j tj a b (by omega)

/-- Where nothing writes the heap is one. -/
theorem heap_const {P : Program} {F : FT} {keep : Bool} {ops : Array Oper} {l : List Oper} {env : List Value} {h : AH} {trs : List TR} {fin : Fin'} (he : trace P F keep ops l env h = some (trs, fin)) {p : Nat} :
    ∀ (q : Nat), p ≤ q → q ≤ trs.length → (q = trs.length → ∃ e2 h2, fin = .norm e2 h2) → (∀ j tj, trs[j]? = some tj → p ≤ j → j < q → tj.k = false) → (after1 trs fin q).2 = (after1 trs fin p).2 := by
  intro q
  induction q with
  | zero => intro hp _ _ _; rw [Nat.le_zero.1 hp]
  | succ q ih =>
    intro hp hq hnorm hno
    by_cases e : p = q + 1
    · rw [e]
    · have hlt : q < trs.length := by omega
      have hll : trs.length ≤ l.length := by rcases trace_len _ _ _ _ _ he with ⟨_, _, _, hl⟩ | ⟨_, _, _, _, hl⟩ <;> omega
      rw [← ih (by omega) (by omega) (fun h => by omega) (fun j tj a b c => hno j tj a b (by omega))]
      have st := trace_step _ _ _ _ _ he q trs[q] l[q] (by simp [hlt]) (by simp)
      have hk := hno q trs[q] (by simp [hlt]) (by omega) (by omega)
      have haft : (after1 trs fin q).2 = trs[q].h := by simp [after1, hlt]
      rw [haft]
      obtain ⟨s1, s2, s3, s4⟩ := st
      cases hw : trs[q].w with
      | false => rw [(s2 hw).2.2]
      | true => rw [(s3 hw hk).2]

end Go.Eng
