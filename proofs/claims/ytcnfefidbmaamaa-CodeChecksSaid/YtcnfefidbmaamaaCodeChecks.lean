/-
  'loiter/loiterlaw16.CodeChecks' returns true for every input; the input reads as it did.
  The engine's machine walks the translated functions; the seat's texts hold what each comes to.
-/
import Derived.Test.YtcnfefidbmaamaaRows
import Derived.Test.YtcnfefidbmaamaaPk22
import Derived.WalkKit
import Derived.ProofKit
import Derived.OpenShut
namespace Go.Proofs.Ytcnfefidbmaamaa.codeChecks
open Go.ChangeShapes Go.WideShapes Go.ChangeAt Go.RowKit Go.Eng
set_option linter.unusedVariables false

theorem own : ownKnob Try.prog.godebug = none := by kernel_rfl
theorem laidOut : laidOutB Try.prog = true := by kernel_rfl
theorem plain26 : plainT Try.prog 20 26 = true := by kernel_rfl
theorem agg26 : isAg Try.prog 26 = true := by kernel_rfl
theorem read26 : Try.prog.readableRec 26 = true ∧ 26 < Try.prog.types.size := ⟨by kernel_rfl, of_decide_eq_true (by kernel_rfl)⟩
/-- What arguments hold together. -/
def bulk (H : Type) : Bulk H where
  f := Rows.uptoBulk
  fa := Rows.uptoBulkAll
  one d := by
    cases d with
    | lit l => cases l <;> simp [Rows.uptoBulk]
    | nil => simp [Rows.uptoBulk]
    | ptr d => simp [Rows.uptoBulk]
    | slice elems spare => simp [Rows.uptoBulk]
    | agg parts => simp [Rows.uptoBulk]
    | iface t d => simp [Rows.uptoBulk]
    | map entries => simp [Rows.uptoBulk]
    | held h => simp [Rows.uptoBulk]
  str l := by simp [Rows.uptoBulk]
  sl a b := by simp [Rows.uptoBulk]
  ag a := by simp [Rows.uptoBulk]
  nil := by simp [Rows.uptoBulkAll]
  cons d r := by simp [Rows.uptoBulkAll]

set_option maxRecDepth 100000 in
theorem walk {H : Type} (enc : TypeId × Value → H) (W : World) (args : Array Value) (ds : List (DataW H)) (ps : List MemPlace) (hA : DataW.TrodAll enc Try.prog W 0 (fun _ => true) true [26] args.toList ds ps)
    (hok : ∀ (j : Nat) (t : TypeId) (v : Value), [26][j]? = some t → args.toList[j]? = some v → ∃ b, Value.okWide Try.prog W .any b t v) :
    Calls Try.prog 3 args W fun e W' => e = .returned (.bool true) ∧ Below W.heap.size W W' := by
  obtain ⟨h, r, avs, e1, e2, e3, e4, e5⟩ := opens_args (P := Try.prog) (W := W) [26] args.toList ds ps (fun t ht => by simp at ht; subst ht; exact plain26) hA hok [] (fun _ => none) (Dr.empty (TabOk.none (by kernel_rfl) _))
  obtain ⟨v, rfl⟩ : ∃ v, avs = [v] := by
    match avs, e3 with
    | [v], _ => exact ⟨v, rfl⟩
  obtain ⟨d, rfl⟩ : ∃ d, ds = [d] := by
    match ds, e4 with
    | [d], _ => exact ⟨d, rfl⟩
  have hr := e5 0 26 v d rfl rfl rfl
  unfold RdA at hr
  rw [if_pos agg26] at hr
  obtain ⟨cs, rfl, hr⟩ := hr
  obtain ⟨C, texts, vi, vc, vt, vp, vk, rfl, g⟩ := Go.S16.image_of (bulk H) hr (Nat.le_refl _)
  exact Gets.law Go.S16.hP Try.func3 (by kernel_rfl) ((Go.S16.CodeChecks_ok g).mono fun _ _ _ ⟨_, e⟩ => e) e1.1 e2

/-! ### THE ROW's STEP -/
set_option maxRecDepth 100000 in
theorem lifted (os : Os) (started : os.Started) (H : Type) (enc : TypeId × Value → H) :
    ReturnsInHanded {} Try.checked os 3 .any (Rows.codeChecksSpec.pre6 enc Try.prog Try.f3 Rows.codeChecksRow.domain false) (Rows.codeChecksSpec.post enc Try.prog Try.f3 false true false false) := by
  refine returnsInHanded_of_change (C := Try.checked) own started (by kernel_rfl) Try.func3
    (ChangeSpec.witness6 (enc := enc) (C := Try.checked) false ⟨#[], #[.agg #[.slice none 0 0, .slice none 0 0, .slice none 0 0, .slice none 0 0, .int .i64 0, .slice none 0 0]], []⟩ 8 (by kernel_rfl) (by kernel_rfl) (by kernel_rfl) (by kernel_rfl)) ?_
  intro W base args ds gs before hval0 hW hcnd _
  have hval : ∀ (j : Nat) t v, Try.f3.params[j]? = some t → args[j]? = some v → Value.okWide Try.prog W .any base t v := hval0
  have hW' := hW
  obtain ⟨p, q, hA0, hV, rfl, hfz, hnd⟩ := hW
  have hA : DataW.TrodAll enc Try.prog W 0 (fun _ => true) true Try.f3.params.toList args.toList ds p := hA0
  rw [Try.params3] at hA hval
  have hA1 : DataW.TrodAll enc Try.prog W 0 (fun _ => true) true [26] args.toList ds p := hA
  obtain ⟨rfl, rfl⟩ := trodVars_none hV
  clear hA0 hval0
  simp only [List.append_nil] at hW'
  have hlt := hA1.lt
  refine (walk enc W args ds p hA1 (fun j t v a b => ⟨base, hval j t v (by simpa using a) (by simpa using b)⟩)).mono fun e W' ⟨he, hg⟩ => ?_
  subst he
  have hA2 := trodAll_below laidOut hg [26] args.toList ds p (fun t ht => by simp at ht; subst ht; exact read26) hA1 hlt
  obtain ⟨v0, d0, rfl, rfl⟩ : ∃ v0 d0, args = #[v0] ∧ ds = [d0] := by
    obtain ⟨v0, d0, h1, h2, _⟩ := trodAll_one hA1
    exact ⟨v0, d0, h1, h2⟩
  exact ⟨_, rfl, ⟨_, _, _, [], _, _, hW', trodAll_cons_mk (shut_bool Try.underlying4 _) trodAll_mk0, hA2, rfl, hg.frame _, fun h => by cases h⟩⟩

theorem over : Rows.codeChecksRow.holds Try.pinned (OpenSpec.ofChange Rows.codeChecksSpec) :=
  OpenClaim.holds_of_wide 3 Try.f3 rfl rfl rfl rfl rfl rfl rfl ⟨rfl, rfl, rfl, rfl, rfl⟩ rfl rfl rfl rfl rfl (by kernel_rfl) Try.func3 (by kernel_rfl)
    (of_decide_eq_true (by kernel_rfl)) (by unfold Func.isWrapper; first | (rw [if_pos (by decide +kernel)]; kernel_rfl) | (rw [if_neg (by decide +kernel)]; exact ⟨rfl, rfl⟩))
    (fun os started H enc _ => lifted os started H enc)

/-- ████ THE STATEMENT ████ -/
theorem proved : Rows.CodeChecksSaid :=
  over
#print axioms proved
end Go.Proofs.Ytcnfefidbmaamaa.codeChecks
