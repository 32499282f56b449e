/- The engine, part 1: values and heaps of an abstract run, and how they stand to the model's. -/
import Derived.Laws.Append
import Derived.Laws.CopyRow
import Derived.Laws.Rows
import Derived.Orders
import Derived.Defers
set_option linter.unusedVariables false
set_option linter.unusedSimpArgs false
namespace Go.Eng

/-! ### 1. Values -/

/-- Where the blocks of an abstract heap lie: the block, and how far the row is moved. -/
structure Loc where
  blk : Nat
  off : Nat
  lim : Nat
  sz : Nat

abbrev Rho := Nat → Option Loc

def Rho.le (r r' : Rho) : Prop := ∀ b x, r b = some x → r' b = some x
theorem Rho.le.refl (r : Rho) : r.le r := fun _ _ h => h
theorem Rho.le.trans {r r' r'' : Rho} (h : r.le r') (k : r'.le r'') : r.le r'' := fun b x hx => k b x (h b x hx)
def Rho.upd (r : Rho) (m : Nat) (x : Loc) : Rho := fun b => if b = m then some x else r b
theorem Rho.upd_same (r : Rho) (m : Nat) (x : Loc) : r.upd m x m = some x := by simp [Rho.upd]
theorem Rho.upd_ne (r : Rho) {m b : Nat} (x : Loc) (h : b ≠ m) : r.upd m x b = r b := by simp [Rho.upd, h]
theorem Rho.le_upd {r : Rho} {m : Nat} (h : r m = none) (x : Loc) : r.le (r.upd m x) := fun b y hb => by
  have : b ≠ m := fun e => by rw [e, h] at hb; cases hb
  rw [Rho.upd_ne r x this]; exact hb

/-- An abstract value and a value of the model. -/
inductive VR (r : Rho) : Value → Value → Prop
  | bool (b : Bool) : VR r (.bool b) (.bool b)
  | int (k : IntKind) (n : Int) : VR r (.int k n) (.int k n)
  | float (k : FloatKind) (n : Nat) : VR r (.float k n) (.float k n)
  | complex (k : FloatKind) (n m : Nat) : VR r (.complex k n m) (.complex k n m)
  | string (s : ByteArray) : VR r (.string s) (.string s)
  | pnil : VR r (.pointer none) (.pointer none)
  | ptr {b o : Nat} {x : Loc} (h : r b = some x) : VR r (.pointer (some ⟨b, o, none⟩)) (.pointer (some ⟨x.blk, o + x.off, none⟩))
  | snil : VR r (.slice none 0 0) (.slice none 0 0)
  | slice {b o n c c' : Nat} {x : Loc} (h : r b = some x) (hc : c ≤ c') (hn : n ≤ c) (hl : o + x.off + c' * x.sz ≤ x.lim) : VR r (.slice (some ⟨b, o, none⟩) n c) (.slice (some ⟨x.blk, o + x.off, none⟩) n c')
  | sempty {b o n' c' : Nat} {a' : Addr} (hn : n' = 0) (hc : c' = 0) : VR r (.slice (some ⟨b, o, none⟩) 0 0) (.slice (some a') n' c')
  | mnil : VR r (.map none) (.map none)
  | map {b : Nat} {x : Loc} (h : r b = some x) (h0 : x.off = 0) : VR r (.map (some b)) (.map (some x.blk))
  | cnil : VR r (.chan none) (.chan none)
  | fnil : VR r .nilFunc .nilFunc
  | func {fn : Fn} {f f' c c' : Array Value} (hf : f.size = f'.size) (hfs : ∀ (i : Nat) (v v' : Value), f[i]? = some v → f'[i]? = some v' → VR r v v')
      (hc : c.size = c'.size) (hcs : ∀ (i : Nat) (v v' : Value), c[i]? = some v → c'[i]? = some v' → VR r v v') : VR r (.func fn f c) (.func fn f' c')
  | inil : VR r .nilIface .nilIface
  | iface {t : TypeId} {v v' : Value} (h : VR r v v') : VR r (.iface t v) (.iface t v')
  | agg {c c' : Array Value} (hc : c.size = c'.size) (hcs : ∀ (i : Nat) (v v' : Value), c[i]? = some v → c'[i]? = some v' → VR r v v') : VR r (.agg c) (.agg c')
  | tuple {c c' : Array Value} (hc : c.size = c'.size) (hcs : ∀ (i : Nat) (v v' : Value), c[i]? = some v → c'[i]? = some v' → VR r v v') : VR r (.tuple c) (.tuple c')

theorem VR.mono {r r' : Rho} (hr : r.le r') {v v' : Value} (h : VR r v v') : VR r' v v' := by
  induction h with
  | bool | int | float | complex | string | pnil | snil | mnil | cnil | fnil | inil => constructor
  | ptr h => exact .ptr (hr _ _ h)
  | slice h hc hn hl => exact .slice (hr _ _ h) hc hn hl
  | sempty h k => exact .sempty h k
  | map h h0 => exact .map (hr _ _ h) h0
  | func hf _ hc _ ih1 ih2 => exact .func hf ih1 hc ih2
  | iface _ ih => exact .iface ih
  | agg hc _ ih => exact .agg hc ih
  | tuple hc _ ih => exact .tuple hc ih

/-- Lists of values. -/
def VL (r : Rho) (l l' : List Value) : Prop := l.length = l'.length ∧ ∀ (i : Nat) (v v' : Value), l[i]? = some v → l'[i]? = some v' → VR r v v'

theorem VL.mono {r r' : Rho} (hr : r.le r') {l l' : List Value} (h : VL r l l') : VL r' l l' := ⟨h.1, fun i v v' a b => (h.2 i v v' a b).mono hr⟩
theorem VL.nil (r : Rho) : VL r [] [] := ⟨rfl, fun i v v' h => by simp at h⟩
theorem VL.cons {r : Rho} {v v' : Value} {l l' : List Value} (h : VR r v v') (k : VL r l l') : VL r (v :: l) (v' :: l') :=
  ⟨by simp [k.1], fun i x x' a b => by cases i with
    | zero => simp at a b; subst a; subst b; exact h
    | succ i => simp at a b; exact k.2 i x x' a b⟩
theorem VL.get {r : Rho} {l l' : List Value} (h : VL r l l') {i : Nat} {v : Value} (hv : l[i]? = some v) : ∃ v', l'[i]? = some v' ∧ VR r v v' := by
  have hi : i < l'.length := by rw [← h.1]; exact (List.getElem?_eq_some_iff.1 hv).1
  exact ⟨l'[i], by simp [hi], h.2 i v _ hv (by simp [hi])⟩
theorem VL.none {r : Rho} {l l' : List Value} (h : VL r l l') {i : Nat} (hv : l[i]? = .none) : l'[i]? = .none := by
  rw [List.getElem?_eq_none_iff] at *; rw [← h.1]; exact hv
theorem VL.append {r : Rho} {l l' m m' : List Value} (h : VL r l l') (k : VL r m m') : VL r (l ++ m) (l' ++ m') := by
  refine ⟨by simp [h.1, k.1], fun i v v' a b => ?_⟩
  by_cases hi : i < l.length
  · rw [List.getElem?_append_left hi] at a
    rw [List.getElem?_append_left (by rw [← h.1]; exact hi)] at b
    exact h.2 i v v' a b
  · rw [List.getElem?_append_right (by omega)] at a
    rw [List.getElem?_append_right (by rw [← h.1]; omega), ← h.1] at b
    exact k.2 _ v v' a b
theorem VL.take {r : Rho} {l l' : List Value} (h : VL r l l') (n : Nat) : VL r (l.take n) (l'.take n) := by
  refine ⟨by simp [h.1], fun i v v' a b => ?_⟩
  rw [List.getElem?_take] at a b
  split at a <;> simp_all
  exact h.2 i v v' a b
theorem VL.drop {r : Rho} {l l' : List Value} (h : VL r l l') (n : Nat) : VL r (l.drop n) (l'.drop n) := by
  refine ⟨by simp [h.1], fun i v v' a b => ?_⟩
  rw [List.getElem?_drop] at a b
  exact h.2 _ v v' a b
theorem VL.set {r : Rho} {l l' : List Value} (h : VL r l l') {v v' : Value} (hv : VR r v v') (n : Nat) : VL r (l.set n v) (l'.set n v') := by
  refine ⟨by simp [h.1], fun i x x' a b => ?_⟩
  rw [List.getElem?_set] at a b
  by_cases hn : n = i
  · subst hn
    simp only [if_true] at a b
    by_cases hl : n < l.length
    · rw [if_pos hl] at a; rw [if_pos (by rw [← h.1]; exact hl)] at b
      cases a; cases b; exact hv
    · rw [if_neg hl] at a; cases a
  · rw [if_neg hn] at a b; exact h.2 i x x' a b
theorem VL.replicate {r : Rho} {v v' : Value} (hv : VR r v v') (n : Nat) : VL r (List.replicate n v) (List.replicate n v') := by
  refine ⟨by simp, fun i x x' a b => ?_⟩
  rw [List.getElem?_replicate] at a b
  split at a <;> simp_all
theorem VL.map {α : Type} {r : Rho} (f g : α → Value) (l : List α) (h : ∀ x ∈ l, VR r (f x) (g x)) : VL r (l.map f) (l.map g) := by
  refine ⟨by simp, fun i v v' a b => ?_⟩
  simp only [List.getElem?_map] at a b
  cases hx : l[i]? with
  | none => simp [hx] at a
  | some x => simp [hx] at a b; subst a; subst b; exact h x (List.mem_of_getElem? hx)
theorem VL.head {r : Rho} {v : Value} {l m : List Value} (h : VL r (v :: l) m) : ∃ v' l', m = v' :: l' ∧ VR r v v' ∧ VL r l l' := by
  cases m with
  | nil => have := h.1; simp at this
  | cons v' l' =>
    exact ⟨v', l', rfl, h.2 0 v v' rfl rfl, by have := h.1; simpa using this, fun i x x' a b => h.2 (i + 1) x x' (by simpa using a) (by simpa using b)⟩
theorem VL.nil_left {r : Rho} {m : List Value} (h : VL r [] m) : m = [] := by
  cases m with
  | nil => rfl
  | cons => have := h.1; simp at this

theorem VR.agg_l {r : Rho} {c c' : Array Value} (h : VL r c.toList c'.toList) : VR r (.agg c) (.agg c') :=
  .agg (by simpa using h.1) fun i v v' a b => h.2 i v v' (by simpa using a) (by simpa using b)
theorem VR.tuple_l {r : Rho} {c c' : Array Value} (h : VL r c.toList c'.toList) : VR r (.tuple c) (.tuple c') :=
  .tuple (by simpa using h.1) fun i v v' a b => h.2 i v v' (by simpa using a) (by simpa using b)
theorem VR.func_l {r : Rho} {fn : Fn} {f f' c c' : Array Value} (h : VL r f.toList f'.toList) (k : VL r c.toList c'.toList) : VR r (.func fn f c) (.func fn f' c') :=
  .func (by simpa using h.1) (fun i v v' a b => h.2 i v v' (by simpa using a) (by simpa using b)) (by simpa using k.1) fun i v v' a b => k.2 i v v' (by simpa using a) (by simpa using b)
theorem VR.agg_inv {r : Rho} {c : Array Value} {v' : Value} (h : VR r (.agg c) v') : ∃ c', v' = .agg c' ∧ VL r c.toList c'.toList := by
  cases h with
  | agg hc hcs => exact ⟨_, rfl, by simpa using hc, fun i v v' a b => hcs i v v' (by simpa using a) (by simpa using b)⟩
theorem VR.tuple_inv {r : Rho} {c : Array Value} {v' : Value} (h : VR r (.tuple c) v') : ∃ c', v' = .tuple c' ∧ VL r c.toList c'.toList := by
  cases h with
  | tuple hc hcs => exact ⟨_, rfl, by simpa using hc, fun i v v' a b => hcs i v v' (by simpa using a) (by simpa using b)⟩
theorem VR.func_inv {r : Rho} {fn : Fn} {f c : Array Value} {v' : Value} (h : VR r (.func fn f c) v') : ∃ f' c', v' = .func fn f' c' ∧ VL r f.toList f'.toList ∧ VL r c.toList c'.toList := by
  cases h with
  | func hf hfs hc hcs => exact ⟨_, _, rfl, ⟨by simpa using hf, fun i v v' a b => hfs i v v' (by simpa using a) (by simpa using b)⟩, by simpa using hc, fun i v v' a b => hcs i v v' (by simpa using a) (by simpa using b)⟩
theorem VR.ptr_inv {r : Rho} {a : Addr} {v' : Value} (h : VR r (.pointer (some a)) v') : ∃ x, r a.block = some x ∧ a.spot = none ∧ v' = .pointer (some ⟨x.blk, a.off + x.off, none⟩) := by
  cases h with
  | ptr h => exact ⟨_, h, rfl, rfl⟩
theorem VR.slice_inv {r : Rho} {a : Addr} {n c : Nat} {v' : Value} (h : VR r (.slice (some a) n c) v') :
    (∃ x c', r a.block = some x ∧ a.spot = none ∧ v' = .slice (some ⟨x.blk, a.off + x.off, none⟩) n c' ∧ c ≤ c' ∧ n ≤ c ∧ a.off + x.off + c' * x.sz ≤ x.lim) ∨ (n = 0 ∧ c = 0 ∧ ∃ a', v' = .slice (some a') 0 0) := by
  cases h with
  | slice h hc hn hl => exact .inl ⟨_, _, h, rfl, rfl, hc, hn, hl⟩
  | sempty h k => subst h; subst k; exact .inr ⟨rfl, rfl, _, rfl⟩
theorem VR.snil_inv {r : Rho} {n c : Nat} {v' : Value} (h : VR r (.slice none n c) v') : n = 0 ∧ c = 0 ∧ v' = .slice none 0 0 := by
  cases h; exact ⟨rfl, rfl, rfl⟩
theorem VR.map_inv {r : Rho} {b : Nat} {v' : Value} (h : VR r (.map (some b)) v') : ∃ x, r b = some x ∧ x.off = 0 ∧ v' = .map (some x.blk) := by
  cases h with
  | map h h0 => exact ⟨_, h, h0, rfl⟩
theorem VR.iface_inv {r : Rho} {t : TypeId} {v v' : Value} (h : VR r (.iface t v) v') : ∃ u, v' = .iface t u ∧ VR r v u := by
  cases h with
  | iface h => exact ⟨_, rfl, h⟩
theorem VR.int_inv {r : Rho} {k : IntKind} {n : Int} {v' : Value} (h : VR r (.int k n) v') : v' = .int k n := by cases h; rfl
theorem VR.bool_inv {r : Rho} {b : Bool} {v' : Value} (h : VR r (.bool b) v') : v' = .bool b := by cases h; rfl
theorem VR.string_inv {r : Rho} {s : ByteArray} {v' : Value} (h : VR r (.string s) v') : v' = .string s := by cases h; rfl
theorem VR.cells {r : Rho} {v v' : Value} (h : VR r v v') : VL r v.cells.toList v'.cells.toList := by
  cases h
  case agg hc hcs => exact (VR.agg_inv (.agg hc hcs)).elim fun c' hh => by cases hh.1; exact hh.2
  all_goals exact .cons (by constructor <;> assumption) (.nil r)

/-- A value that names no block. -/
def scal : Nat → Value → Bool
  | _, .bool _ | _, .int _ _ | _, .float _ _ | _, .complex _ _ _ | _, .string _ | _, .pointer none | _, .slice none 0 0 | _, .map none | _, .chan none | _, .nilFunc | _, .nilIface => true
  | n + 1, .iface _ v => scal n v
  | n + 1, .agg c => c.toList.all (scal n)
  | n + 1, .tuple c => c.toList.all (scal n)
  | n + 1, .func _ f c => f.toList.all (scal n) && c.toList.all (scal n)
  | _, _ => false

theorem all_eq {r : Rho} {n : Nat} (ih : ∀ v v', scal n v = true → VR r v v' → v' = v) {c c' : Array Value} (h : c.toList.all (scal n) = true) (k : VL r c.toList c'.toList) : c' = c := by
  apply Array.ext'
  apply List.ext_getElem?
  intro i
  cases hx : c.toList[i]? with
  | none => exact k.none hx
  | some x =>
    obtain ⟨x', h1, h2⟩ := k.get hx
    rw [h1, ih x x' (List.all_eq_true.1 h x (List.mem_of_getElem? hx)) h2]

theorem scal_eq {r : Rho} : ∀ (n : Nat) (v v' : Value), scal n v = true → VR r v v' → v' = v := by
  intro n
  induction n with
  | zero =>
    intro v v' h k
    cases k <;> first | rfl | (simp [scal] at h)
  | succ n ih =>
    intro v v' h k
    cases k with
    | iface k => rw [ih _ _ (by simpa [scal] using h) k]
    | agg a b => obtain ⟨c', e, k⟩ := VR.agg_inv (.agg a b); cases e; rw [all_eq ih (by simpa only [scal] using h) k]
    | tuple a b => obtain ⟨c', e, k⟩ := VR.tuple_inv (.tuple a b); cases e; rw [all_eq ih (by simpa only [scal] using h) k]
    | @func fn _ _ _ _ a b c d =>
      obtain ⟨f', c', e, k1, k2⟩ := VR.func_inv (VR.func (fn := fn) a b c d); cases e
      simp only [scal, Bool.and_eq_true] at h
      rw [all_eq ih h.1 k1, all_eq ih h.2 k2]
    | _ => first | rfl | (simp [scal] at h)

theorem all_refl {r : Rho} {n : Nat} (ih : ∀ v, scal n v = true → VR r v v) {c : Array Value} (h : c.toList.all (scal n) = true) : VL r c.toList c.toList :=
  ⟨rfl, fun i v v' a b => by rw [a] at b; cases b; exact ih v (List.all_eq_true.1 h v (List.mem_of_getElem? a))⟩

theorem scal_refl {r : Rho} : ∀ (n : Nat) (v : Value), scal n v = true → VR r v v := by
  intro n
  induction n with
  | zero =>
    intro v h
    unfold scal at h
    split at h <;> first | (constructor; done) | (simp at *; done)
  | succ n ih =>
    intro v h
    unfold scal at h
    split at h <;> first
      | (constructor; done)
      | (rename_i n' _ e; cases e; exact .iface (ih _ h))
      | (rename_i n' _ e; cases e; exact .agg_l (all_refl ih h))
      | (rename_i n' _ e; cases e; exact .tuple_l (all_refl ih h))
      | (rename_i n' _ _ e; cases e; simp only [Bool.and_eq_true] at h; exact .func_l (all_refl ih h.1) (all_refl ih h.2))
      | (simp at *; done)

/-! ### 2. What asks nothing of the world -/

def pureRun (P : Program) {α : Type} : Sem α → Option α
  | .pure a => some a
  | .program k => pureRun P (k P)
  | .mark _ k => pureRun P k
  | _ => none

theorem pureRun_run {P : Program} {α : Type} {s : Sem α} {a : α} (h : pureRun P s = some a) (w : World) : s.run P w = .ok a w := by
  induction s with
  | pure b => simp [pureRun] at h; subst h; rfl
  | program k ih => simp only [pureRun] at h; simpa [Sem.run] using ih P h
  | mark m k ih => simp only [pureRun] at h; simpa [Sem.run] using ih h
  | _ => simp [pureRun] at h

def sizeT (P : Program) (t : TypeId) : Option Nat := (P.info? t).map (·.size)

end Go.Eng
