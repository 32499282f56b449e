/-
  'loiter/loiterlaw20.MachineNil' returns true: for its one input (it has no argument), with no condition.
  The engine runs the translated function; Lean's kernel holds the run.
-/
import Derived.Test.YtaigopmaojaoeabGreatRows
import Derived.Test.YtaigopmaojaoeabGreatProg
import Derived.Test.YtaigopmaojaoeabGreatPk8
import Derived.Test.YtaigopmaojaoeabGreatPk8
import Derived.Test.YtaigopmaojaoeabGreatPk8
import Derived.Test.YtaigopmaojaoeabGreatPk9
import Derived.Test.YtaigopmaojaoeabGreatPk9
import Derived.Test.YtaigopmaojaoeabGreatPk9
import Derived.Test.YtaigopmaojaoeabGreatPk9
import Derived.Test.YtaigopmaojaoeabGreatPk9
import Derived.Test.YtaigopmaojaoeabGreatPk10
import Derived.Test.YtaigopmaojaoeabGreatPk10
import Derived.WalkKit
import Derived.ProofKit
import Derived.OpenShut
namespace Go.Proofs.YtaigopmaojaoeabGreat.machineNil
open Go.ChangeShapes Go.WideShapes Go.ChangeAt Go.RowKit Go.Eng
set_option linter.unusedVariables false

theorem own : ownKnob Tryz.prog.godebug = none := by kernel_rfl
theorem hP : noGoroutines Tryz.prog = true := by kernel_rfl
theorem hM : Tryz.prog.follows .mixedOrders = true := by kernel_rfl
open Go.S20 in
set_option maxRecDepth 100000 in
/-- The nine steps that the fixed run tries, each run by itself. -/
theorem known : FOk Tryz.prog (knownT [kn0, kn1, kn2, kn3, kn4, kn5, kn6, kn7, kn8]) := by
  refine knownT_ok fun k hk => ?_
  simp only [List.mem_cons, List.not_mem_nil, or_false] at hk
  rcases hk with rfl | rfl | rfl | rfl | rfl | rfl | rfl | rfl | rfl
  · exact runsTo.holds (k := kn0) hP hM run0
  · exact runsTo.holds (k := kn1) hP hM run1
  · exact runsTo.holds (k := kn2) hP hM run2
  · exact runsTo.holds (k := kn3) hP hM run3
  · exact runsTo.holds (k := kn4) hP hM run4
  · exact runsTo.holds (k := kn5) hP hM run5
  · exact runsTo.holds (k := kn6) hP hM run6
  · exact runsTo.holds (k := kn7) hP hM run7
  · exact runsTo.holds (k := kn8) hP hM run8
/-! ### The walk: by the engine -/
set_option maxRecDepth 100000 in
theorem walk (w : World) : Calls Tryz.prog 4 #[] w fun e w' => e = .returned (.bool true) ∧ Below w.heap.size w w' :=
  calls_trueZ (n := 60) (fuel := 400) (keep := fun _ => false) known hP hM Tryz.func4 (by kernel_rfl) (by kernel_rfl) w (TabOk.none (by kernel_rfl) _)

/-! ### THE ROW's STEP -/
set_option maxRecDepth 100000 in
theorem lifted (os : Os) (started : os.Started) (H : Type) (enc : TypeId × Value → H) :
    ReturnsInHanded {} Tryz.checked os 4 .any (Rows.machineNilSpec.pre6 enc Tryz.prog Tryz.f4 Rows.machineNilRow.domain false) (Rows.machineNilSpec.post enc Tryz.prog Tryz.f4 false true false false) := by
  refine returnsInHanded_of_change (C := Tryz.checked) own started (by kernel_rfl) Tryz.func4
    (ChangeSpec.witness6 (enc := enc) (C := Tryz.checked) false ⟨#[], #[], []⟩ 8 (by kernel_rfl) (by kernel_rfl) (by kernel_rfl) (by kernel_rfl)) ?_
  intro W base args ds gs before hval0 hW hcnd _
  have hval : ∀ (j : Nat) t v, Tryz.f4.params[j]? = some t → args[j]? = some v → Value.okWide Tryz.prog W .any base t v := hval0
  have hW' := hW
  obtain ⟨p, q, hA0, hV, rfl, hfz, hnd⟩ := hW
  have hA : DataW.TrodAll enc Tryz.prog W 0 (fun _ => true) true Tryz.f4.params.toList args.toList ds p := hA0
  rw [Tryz.params4] at hA hval
  obtain ⟨rfl, rfl, rfl⟩ := trodAll_none hA
  obtain ⟨rfl, rfl⟩ := trodVars_none hV
  clear hA0 hval0
  simp only [List.append_nil] at hW'
  refine (walk  W).mono fun e W' ⟨he, hg⟩ => ?_
  subst he
  exact ⟨_, rfl, ⟨_, _, _, [], _, [], hW', trodAll_cons_mk (shut_bool Tryz.underlying4 _) trodAll_mk0, trodAll_mk0, rfl, hg.frame _, fun h => by cases h⟩⟩

theorem over : Rows.machineNilRow.holds Tryz.pinned (OpenSpec.ofChange Rows.machineNilSpec) :=
  OpenClaim.holds_of_wide 4 Tryz.f4 rfl rfl rfl rfl rfl rfl rfl ⟨rfl, rfl, rfl, rfl, rfl⟩ rfl rfl rfl rfl rfl (by kernel_rfl) Tryz.func4 (by kernel_rfl)
    (of_decide_eq_true (by kernel_rfl)) (by unfold Func.isWrapper; first | (rw [if_pos (by decide +kernel)]; kernel_rfl) | (rw [if_neg (by decide +kernel)]; exact ⟨rfl, rfl⟩))
    (fun os started H enc _ => lifted os started H enc)

/-- ████ THE STATEMENT ████ -/
theorem proved : Rows.MachineNilSaid :=
  over
#print axioms proved
end Go.Proofs.YtaigopmaojaoeabGreat.machineNil
