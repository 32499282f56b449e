/- The engine, part 11: regions that draw their order. -/
import Derived.Test.YtoojhjhamhkmjaaLE10
set_option linter.unusedVariables false
set_option linter.unusedSimpArgs false
namespace Go.Eng

/-! ### What is not looked at does not matter -/

theorem evs_congr {env env' : List Value} : ∀ {l : List Operand}, (∀ x ∈ l, ev env x = ev env' x) → evs (ev env) l = evs (ev env') l := by
  intro l
  induction l with
  | nil => intro _; rfl
  | cons x l ih =>
    intro h
    simp only [evs, h x (by simp), ih fun y hy => h y (by simp [hy])]

theorem evp_congr {env env' : List Value} : ∀ {l : List (Nat × Operand)}, (∀ x ∈ l, ev env x.2 = ev env' x.2) → evp (ev env) l = evp (ev env') l := by
  intro l
  induction l with
  | nil => intro _; rfl
  | cons x l ih =>
    intro h
    obtain ⟨i, x⟩ := x
    simp only [evp, h (i, x) (by simp), ih fun y hy => h y (by simp [hy])]

theorem all_congr {α : Type} {f g : α → Bool} : ∀ {l : List α}, (∀ x ∈ l, f x = g x) → l.all f = l.all g := by
  intro l
  induction l with
  | nil => intro _; rfl
  | cons x l ih => intro h; simp only [List.all_cons, h x (by simp), ih fun y hy => h y (by simp [hy])]

theorem rscal_congr {P : Program} {env env' : List Value} {o : Oper} (hx : ∀ x ∈ o.op.operands, ev env x = ev env' x) : rscal P (ev env) o = rscal P (ev env') o := by
  unfold rscal
  rw [all_congr (g := fun x => okScal (ev env' x)) (fun x h => by rw [hx x (by simpa using h)])]
  by_cases hs : notSel o.op = true
  · rw [execOp_congr (ρ := fun x => (ev env x).getD undef) (ρ' := fun x => (ev env' x).getD undef) o (fun cs b e => by rw [e] at hs; cases hs) (fun x h => by simp only [hx x h])]
  · simp [hs]

theorem evo_congr {env env' : List Value} {x : Option Operand} (h : ∀ y ∈ x, ev env y = ev env' y) : evo (ev env) x = evo (ev env') x := by
  cases x with
  | none => rfl
  | some x => simp only [evo, h x rfl]

theorem aread_congr {P : Program} {env env' : List Value} {h : AH} {m : Nat} {o : Oper} (hx : ∀ x ∈ o.op.operands, ev env x = ev env' x) : aread P (ev env) h m o = aread P (ev env') h m o := by
  have hsc := rscal_congr (P := P) hx
  obtain ⟨dst, op, type, pos, after, guard⟩ := o
  simp only at hx
  unfold aread
  cases op <;> simp only [Op.operands] at hx <;> dsimp only
  case move x => rw [hx x (by simp)]
  case assign x => rw [hx x (by simp)]
  case pick c a b => rw [hx c (by simp), hx a (by simp), hx b (by simp)]
  case box t x => rw [hx x (by simp)]
  case build t ps => rw [evp_congr (env' := env') fun p hp => hx p.2 (by simp; exact ⟨p.1, by simpa using hp⟩)]
  case buildSlice t n ps => rw [evp_congr (env' := env') fun p hp => hx p.2 (by simp; exact ⟨p.1, by simpa using hp⟩)]
  case load t x => rw [hx x (by simp)]
  case nilCheck x => rw [hx x (by simp)]
  case binOp op t x y yt => rw [hsc, hx x (by simp), hx y (by simp)]
  case unOp => rw [hsc]
  case convert s d x => rw [hsc, hx x (by simp)]
  case makeInterface t x => rw [hx x (by simp)]
  case makeFunc fn f c => rw [evs_congr (env' := env') (l := f.toList) fun x hq => hx x (by simp at hq; simp [hq]), evs_congr (env' := env') (l := c.toList) fun x hq => hx x (by simp at hq; simp [hq])]
  case makeMap t r => cases r <;> rfl
  case makeSlice t l c => rw [hx l (by simp), hx c (by simp)]
  case slice t x lo hi mx =>
    rw [hsc, hx x (by simp), evo_congr (env' := env') (x := lo) fun y hy => hx y (by simp at hy; subst hy; simp), evo_congr (env' := env') (x := hi) fun y hy => hx y (by simp at hy; subst hy; simp),
      evo_congr (env' := env') (x := mx) fun y hy => hx y (by simp at hy; subst hy; simp)]
  case fieldAddr t x f => rw [hx x (by simp)]
  case field t x f => rw [hx x (by simp)]
  case indexAddr t x i => rw [hx x (by simp), hx i (by simp)]
  case index t x i => rw [hsc, hx x (by simp), hx i (by simp)]
  case lookup t x k ok => rw [hx x (by simp), hx k (by simp)]
  case typeAssert x t u ok => rw [hx x (by simp)]
  case extract x i => rw [hx x (by simp)]
  case call c =>
    unfold rcall
    split
    · split
      · rename_i x t ha ht
        have : x ∈ c.args := by rw [← Array.mem_toList_iff, ha]; simp
        rw [hsc, hx x (by simp [Call.operands, this])]
      · rfl
    · rw [hsc]
    · rw [hsc]
    · rw [hsc]
    · rfl

theorem awrite_congr {P : Program} {keep : Bool} {env env' : List Value} {h : AH} {o : Oper} (hx : ∀ x ∈ o.op.operands, ev env x = ev env' x) : awrite P keep (ev env) h o = awrite P keep (ev env') h o := by
  obtain ⟨dst, op, type, pos, after, guard⟩ := o
  simp only at hx
  unfold awrite
  cases op <;> simp only [Op.operands] at hx <;> dsimp only
  case store t a x => rw [hx a (by simp), hx x (by simp)]
  case mapUpdate t m k x => rw [hx m (by simp), hx k (by simp), hx x (by simp)]
  case insert t m k x => rw [hx m (by simp), hx k (by simp), hx x (by simp)]
  case call c =>
    have hm : ∀ x ∈ c.args.toList, ev env x = ev env' x := fun x hq => hx x (by simp [Call.operands]; right; simpa using hq)
    split
    · rename_i ha ht; rw [ha] at hm; rw [hm _ (by simp), hm _ (by simp)]
    · rename_i ha ht; rw [ha] at hm; rw [hm _ (by simp)]
    · rename_i ha ht; rw [ha] at hm; rw [hm _ (by simp), hm _ (by simp)]
    · rename_i ha ht; rw [ha] at hm; rw [hm _ (by simp), hm _ (by simp)]
    · rfl

theorem aopv_congr {P : Program} {F : FT} {keep : Bool} {env env' : List Value} {h : AH} {o : Oper} (hx : ∀ x ∈ o.op.operands, ev env x = ev env' x) : aopv P F keep env h o = aopv P F keep env' h o := by
  unfold aopv
  rw [aread_congr hx, awrite_congr hx]
  obtain ⟨dst, op, type, pos, after, guard⟩ := o
  simp only at hx
  dsimp only
  split <;> try rfl
  split <;> try rfl
  split
  · rename_i c _ _
    simp only [Op.operands] at hx
    unfold acall1
    split
    · rename_i f hf
      rw [hx f (by simp [Call.operands, hf]), evs_congr (env' := env') fun x hq => hx x (by simp [Call.operands]; right; simpa using hq)]
    · rfl
  · rename_i x _ _
    simp only [Op.operands] at hx
    rw [hx x (by simp)]
  · rfl

end Go.Eng
