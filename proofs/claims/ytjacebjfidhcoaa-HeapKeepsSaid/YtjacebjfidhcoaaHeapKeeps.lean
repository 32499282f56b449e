/-
  'loiter/loiterlaw18.HeapKeeps' returns true for every input; the input reads as it did.
  The engine's machine (LtE1 to LtE40) walks the translated functions; LtR18 to LtX18 hold what each comes to.
-/
import Derived.Test.YtjacebjfidhcoaaRows
import Derived.Test.YtjacebjfidhcoaaPk23
import Derived.WalkKit
import Derived.ProofKit
import Derived.OpenShut
namespace Go.Proofs.Ytjacebjfidhcoaa.heapKeeps
open Go.ChangeShapes Go.WideShapes Go.ChangeAt Go.RowKit Go.Eng
set_option linter.unusedVariables false

theorem own : ownKnob Try.prog.godebug = none := by kernel_rfl
theorem laidOut : laidOutB Try.prog = true := by kernel_rfl
theorem plain3 : plainT Try.prog 20 3 = true := by kernel_rfl
theorem agg3 : isAg Try.prog 3 = false := by kernel_rfl
theorem un3 : Try.prog.underlying 3 = some (.int .i64) := by kernel_rfl
theorem read3 : Try.prog.readableRec 3 = true ∧ 3 < Try.prog.types.size := ⟨by kernel_rfl, of_decide_eq_true (by kernel_rfl)⟩
theorem int_of {H : Type} {h : AH} {cs : List Value} {d : DataW H} (hr : Rd' Try.prog h 3 cs d) : ∃ n, cs = [iv n] := by
  cases hr with
  | bool h' => rw [un3] at h'; cases h'
  | int h' n => rw [un3] at h'; cases h'; exact ⟨n, rfl⟩
  | str h' => rw [un3] at h'; cases h'
  | snil h' => rw [un3] at h'; cases h'
  | sempty h' => rw [un3] at h'; cases h'
  | slice h' => rw [un3] at h'; cases h'
  | struct h' => rw [un3] at h'; cases h'
  | array h' => rw [un3] at h'; cases h'

set_option maxRecDepth 100000 in
theorem walk {H : Type} (enc : TypeId × Value → H) (W : World) (args : Array Value) (ds : List (DataW H)) (ps : List MemPlace) (hA : DataW.TrodAll enc Try.prog W 0 (fun _ => true) true [3] args.toList ds ps)
    (hok : ∀ (j : Nat) (t : TypeId) (v : Value), [3][j]? = some t → args.toList[j]? = some v → ∃ b, Value.okWide Try.prog W .any b t v) :
    Calls Try.prog 3 args W fun e W' => e = .returned (.bool true) ∧ Below W.heap.size W W' := by
  obtain ⟨h, r, avs, e1, e2, e3, e4, e5⟩ := opens_args (P := Try.prog) (W := W) [3] args.toList ds ps (fun t ht => by simp at ht; subst ht; exact plain3) hA hok [] (fun _ => none) Dr.empty
  obtain ⟨v, rfl⟩ : ∃ v, avs = [v] := by
    match avs, e3 with
    | [v], _ => exact ⟨v, rfl⟩
  obtain ⟨d, rfl⟩ : ∃ d, ds = [d] := by
    match ds, e4 with
    | [d], _ => exact ⟨d, rfl⟩
  have hr := e5 0 3 v d rfl rfl rfl
  unfold RdA at hr
  rw [if_neg (by rw [agg3]; simp)] at hr
  obtain ⟨n, hn⟩ := int_of hr
  have hv : v = .int .i64 n := by simpa using hn
  subst hv
  have hl : args.toList.length = 1 := e2.1.symm
  obtain ⟨u, hu⟩ : ∃ u, args.toList = [u] := by
    match args.toList, hl with
    | [u], _ => exact ⟨u, rfl⟩
  have hu2 : u = .int .i64 n := VR.int_inv (e2.2 0 _ u rfl (by rw [hu]; rfl))
  have ha : args = #[.int .i64 n] := by
    apply Array.toList_inj.1
    rw [hu, hu2]
  subst ha
  exact Go.S18.Keeps_run n W

/-! ### THE ROW's STEP -/
set_option maxRecDepth 100000 in
theorem lifted (os : Os) (started : os.Started) (H : Type) (enc : TypeId × Value → H) :
    ReturnsInHanded {} Try.checked os 3 .any (Rows.heapKeepsSpec.pre6 enc Try.prog Try.f3 Rows.heapKeepsRow.domain false) (Rows.heapKeepsSpec.post enc Try.prog Try.f3 false true false false) := by
  refine returnsInHanded_of_change (C := Try.checked) own started (by kernel_rfl) Try.func3
    (ChangeSpec.witness6 (enc := enc) (C := Try.checked) false ⟨#[], #[.int .i64 0], []⟩ 8 (by kernel_rfl) (by kernel_rfl) (by kernel_rfl) (by kernel_rfl)) ?_
  intro W base args ds gs before hval0 hW hcnd _
  have hval : ∀ (j : Nat) t v, Try.f3.params[j]? = some t → args[j]? = some v → Value.okWide Try.prog W .any base t v := hval0
  have hW' := hW
  obtain ⟨p, q, hA0, hV, rfl, hfz, hnd⟩ := hW
  have hA : DataW.TrodAll enc Try.prog W 0 (fun _ => true) true Try.f3.params.toList args.toList ds p := hA0
  rw [Try.params3] at hA hval
  have hA1 : DataW.TrodAll enc Try.prog W 0 (fun _ => true) true [3] args.toList ds p := hA
  obtain ⟨rfl, rfl⟩ := trodVars_none hV
  clear hA0 hval0
  simp only [List.append_nil] at hW'
  have hlt := hA1.lt
  refine (walk enc W args ds p hA1 (fun j t v a b => ⟨base, hval j t v (by simpa using a) (by simpa using b)⟩)).mono fun e W' ⟨he, hg⟩ => ?_
  subst he
  have hA2 := trodAll_below laidOut hg [3] args.toList ds p (fun t ht => by simp at ht; subst ht; exact read3) hA1 hlt
  obtain ⟨v0, d0, rfl, rfl⟩ : ∃ v0 d0, args = #[v0] ∧ ds = [d0] := by
    obtain ⟨v0, d0, h1, h2, _⟩ := trodAll_one hA1
    exact ⟨v0, d0, h1, h2⟩
  exact ⟨_, rfl, ⟨_, _, _, [], _, _, hW', trodAll_cons_mk (shut_bool Try.underlying4 _) trodAll_mk0, hA2, rfl, hg.frame _, fun h => by cases h⟩⟩

theorem over : Rows.heapKeepsRow.holds Try.pinned (OpenSpec.ofChange Rows.heapKeepsSpec) :=
  OpenClaim.holds_of_wide 3 Try.f3 rfl rfl rfl rfl rfl rfl rfl ⟨rfl, rfl, rfl, rfl, rfl⟩ rfl rfl rfl rfl rfl (by kernel_rfl) Try.func3 (by kernel_rfl)
    (of_decide_eq_true (by kernel_rfl)) (by unfold Func.isWrapper; first | (rw [if_pos (by decide +kernel)]; kernel_rfl) | (rw [if_neg (by decide +kernel)]; exact ⟨rfl, rfl⟩))
    (fun os started H enc _ => lifted os started H enc)

/-- ████ THE STATEMENT ████ -/
theorem proved : Rows.HeapKeepsSaid :=
  over
#print axioms proved
end Go.Proofs.Ytjacebjfidhcoaa.heapKeeps
