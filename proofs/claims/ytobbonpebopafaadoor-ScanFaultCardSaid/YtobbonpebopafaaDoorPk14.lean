import Derived.Test.YtobbonpebopafaaDoorPk13
import Derived.Test.YtobbonpebopafaaDoorPk6
/- The engine, part 40: maps of numbers. -/
set_option linter.unusedVariables false
set_option linter.unusedSimpArgs false
namespace Go.Eng

/-- A map's entries. -/
def mp (l : List (Int × Int)) : List (Value × Value) := l.map fun p => (iv p.1, iv p.2)
section
variable {P : Program} {kt : TypeId}
/-- A map of one's own. -/
def MOwn (h : AH) (b : Nat) (l : List (Int × Int)) : Prop := h[b]? = some (.map (mp l))
theorem MOwn.lt {h : AH} {b : Nat} {l : List (Int × Int)} (m : MOwn h b l) : b < h.length := (List.getElem?_eq_some_iff.1 m).1
theorem MOwn.keep {S : Nat → Prop} {h h' : AH} {b : Nat} {l : List (Int × Int)} (m : MOwn h b l) (k : Keep S h h') (hs : ¬ S b) : MOwn h' b l := k.get m hs
theorem MOwn.new (h : AH) : MOwn (h ++ [.map []]) h.length [] := by simp [MOwn, mp]

end
end Go.Eng

/- The engine, part 41: what arguments hold. -/
set_option linter.unusedVariables false
set_option linter.unusedSimpArgs false
namespace Go.Eng

section
variable {P : Program} {H : Type} {h : AH}

/-- An int's range. -/
def rng (n : Int) : Prop := -9223372036854775808 ≤ n ∧ n ≤ 9223372036854775807

/-- Some cells of an element. -/
theorem rds_sub {sz n : Nat} {v : Value} {cs : List Value} (hr : Rds h sz v n cs) {i j m : Nat} (hi : i < n) (hj : j + m ≤ sz) : ∃ b o c, v = .slice (some ⟨b, o, none⟩) n c ∧ ldcs h b (o + i * sz + j) m = some ((cs.drop (i * sz + j)).take m) := by
  cases hr with
  | nil => omega
  | emp => omega
  | @mk b o n c all cs hb hl hx =>
    have e : i * sz + sz ≤ n * sz := by
      have := Nat.mul_le_mul_right sz (show i + 1 ≤ n by omega)
      rw [Nat.add_mul, Nat.one_mul] at this; exact this
    refine ⟨b, o, c, rfl, ?_⟩
    rw [hb.lds (o + i * sz + j) m (by omega), ← hx, List.drop_take, List.drop_drop, List.take_take, Nat.add_assoc, Nat.min_eq_left (by omega)]
theorem flat_at {α : Type} {f : α → List Value} {k : Nat} (hf : ∀ x, (f x).length = k) : ∀ {xs : List α} {i : Nat} {x : α}, xs[i]? = some x → ∀ {j m : Nat}, j + m ≤ k → ((xs.flatMap f).drop (i * k + j)).take m = ((f x).drop j).take m := by
  intro xs
  induction xs with
  | nil => intro i x h; simp at h
  | cons y xs ih =>
    intro i x h j m hj
    rw [List.flatMap_cons]
    cases i with
    | zero =>
      simp at h; subst h
      rw [Nat.zero_mul, Nat.zero_add, List.drop_append_of_le_length (by rw [hf]; omega), List.take_append_of_le_length (by rw [List.length_drop, hf]; omega)]
    | succ i =>
      have := ih (i := i) (by simpa using h) hj
      rw [← this, show (i + 1) * k + j = (f y).length + (i * k + j) by rw [hf, Nat.add_mul]; omega, ← List.drop_drop, List.drop_left]
end
end Go.Eng

/- The engine, part 42: a run in which some tests are said ahead: what they come to is shown by hand. -/
set_option linter.unusedVariables false
set_option linter.unusedSimpArgs false
namespace Go.Eng
open Go.RowKit

/-- What is said of tests: by the place of their result. -/
abbrev Says := Nat → Option Bool
/-- All tests came to what was said. -/
def Said (q : List (Value × Bool)) : Prop := ∀ p, p ∈ q → p.1 = .bool p.2
theorem Said.l {q q' : List (Value × Bool)} (h : Said (q ++ q')) : Said q := fun p hp => h p (List.mem_append_left _ hp)
theorem Said.r {q q' : List (Value × Bool)} (h : Said (q ++ q')) : Said q' := fun p hp => h p (List.mem_append_right _ hp)

/-- A run that returns true, if its tests came to what was said: the tests. -/
def tests (P : Program) (rs : List ResultVar) : Option (Out × St × List (Value × Bool)) → Option (List (Value × Bool))
  | some (.ret, ⟨env, h, []⟩, q) => match ares P env h rs with
    | some [.bool true] => some q
    | _ => none
  | _ => none
end Go.Eng

/- The engine, part 43: functions without a body. -/
set_option linter.unusedVariables false
set_option linter.unusedSimpArgs false
namespace Go.Eng

theorem Gets.extRun {P : Program} {f : FuncId} {fn : Func} {e : Array Value → Sem Value} (hf : P.funcs[f]? = some fn) (hname : (fn.name == "runtime.NumGoroutine") = false) (hb : fn.body.isNone = true)
    (hn : Extern.findNext fn = none) (he : Extern.find fn = some e) {args : List Value} {v : Value} (hs : args.all (scal 8) = true) (hv : scal 8 v = true) (hrun : ∀ w, (e args.toArray).run P w = .ok v w) (h : AH) {Φ : Res → AH → Prop} (hΦ : Φ (.ret v) h) : Gets P f args h Φ :=
  ⟨.ret v, h, fun r w args' hr ha o a K Q hK hQ => by
    rw [all_scal_eq hs ha, run_callFunc_extern hf hname hb hn he, hrun]
    exact hK _ _ _ r rfl (Stp.refl hr) (scal_refl 8 v hv), Nat.le_refl _, hΦ⟩

end Go.Eng
