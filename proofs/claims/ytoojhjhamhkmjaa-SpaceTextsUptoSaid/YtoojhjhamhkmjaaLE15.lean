/- The engine, part 15: from the engine's run to a contract. -/
import Derived.Test.YtoojhjhamhkmjaaLE14
import Derived.RowKit3
import Derived.Below
set_option linter.unusedVariables false
set_option linter.unusedSimpArgs false
namespace Go.Eng
open Go.RowKit

theorem HR.empty (P : Program) (W : Array Obj) : HR P (fun _ => none) [] W :=
  { dom := fun b x h => by cases h
    blk := fun b B h => by simp at h
    sep := fun b b' B B' x x' h => by simp at h }

theorem Stp.below {P : Program} {r r' : Rho} {h' : AH} {w w' : World} (s : Stp P r [] w r' h' w') : Below w.heap.size w w' :=
  ⟨s.fr.os, s.fr.tape, s.fr.output, s.fr.size, fun k hk => s.fr.block k hk fun ⟨b, B, x, h, _⟩ => by simp at h⟩

def isTrue : Option (Res × AH) → Bool
  | some (.ret (.bool true), _) => true
  | _ => false

theorem isTrue_inv : ∀ {x : Option (Res × AH)}, isTrue x = true → ∃ h, x = some (.ret (.bool true), h)
  | some (.ret (.bool true), h), _ => ⟨h, rfl⟩

/-- The engine's word on a function without arguments. -/
theorem calls_true {P : Program} {f : FuncId} {fn : Func} {keep : FuncId → Bool} {n fuel : Nat} (hP : noGoroutines P = true) (hm : P.follows .mixedOrders = true) (hf : P.funcs[f]? = some fn) (hb : fn.body.isSome = true)
    (he : isTrue (afun P (adraw P false) keep fuel n f [] []) = true) (w : World) :
    Calls P f #[] w fun e w' => e = .returned (.bool true) ∧ Below w.heap.size w w' := by
  obtain ⟨h', he⟩ := isTrue_inv he
  obtain ⟨c, hc⟩ := Option.isSome_iff_exists.mp hb
  refine Calls.mono ((afun_ok hP (fun F hF => adraw_ok hm hF) n).calls hP hf hc he (HR.empty P w.heap) (VL.nil _)) fun e w' h => ?_
  obtain ⟨v', r', rfl, st, hv⟩ := h
  exact ⟨by rw [hv.bool_inv], st.below⟩

end Go.Eng
