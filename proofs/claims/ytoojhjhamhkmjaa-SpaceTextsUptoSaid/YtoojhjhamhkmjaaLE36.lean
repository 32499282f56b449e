/- The engine, part 36: how much arguments hold together. -/
import Derived.Test.YtoojhjhamhkmjaaLE35
set_option linter.unusedVariables false
set_option linter.unusedSimpArgs false
namespace Go.Eng

/-- A count of values and letters. -/
structure Bulk (H : Type) where
  f : DataW H → Nat
  fa : List (DataW H) → Nat
  one : ∀ d, 1 ≤ f d
  str : ∀ l, f (.lit (.string l)) = l.length + 1
  sl : ∀ a b, f (.slice a b) = fa a + fa b + 1
  ag : ∀ a, f (.agg a) = fa a + 1
  nil : fa [] = 0
  cons : ∀ d r, fa (d :: r) = f d + fa r

theorem Bulk.part {H : Type} (B : Bulk H) {d : DataW H} {l : List (DataW H)} (h : d ∈ l) : B.f d ≤ B.fa l := by
  induction l with
  | nil => cases h
  | cons x r ih =>
    rw [B.cons]
    cases List.mem_cons.1 h with
    | inl e => subst e; omega
    | inr e => have := ih e; omega
theorem Bulk.len {H : Type} (B : Bulk H) (l : List (DataW H)) : l.length ≤ B.fa l := by
  induction l with
  | nil => simp
  | cons x r ih => have := B.one x; rw [B.cons, List.length_cons]; omega
theorem Bulk.elem {H : Type} (B : Bulk H) {a b : List (DataW H)} {i : Nat} {d : DataW H} (h : a[i]? = some d) : B.f d ≤ B.f (.slice a b) := by
  have := B.part (List.mem_of_getElem? h)
  rw [B.sl]; omega
theorem Bulk.field {H : Type} (B : Bulk H) {a : List (DataW H)} {i : Nat} {d : DataW H} (h : a[i]? = some d) : B.f d ≤ B.f (.agg a) := by
  have := B.part (List.mem_of_getElem? h)
  rw [B.ag]; omega
theorem Bulk.slen {H : Type} (B : Bulk H) (a b : List (DataW H)) : a.length ≤ B.f (.slice a b) := by
  have := B.len a
  rw [B.sl]; omega

end Go.Eng
