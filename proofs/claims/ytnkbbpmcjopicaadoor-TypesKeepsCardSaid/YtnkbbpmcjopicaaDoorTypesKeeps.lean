/-
  'loiter/loiterlaw11.TypesKeeps' returns true for every text; the input reads as it did; the listed package variables tied to the program's text.
  The engine's machine walks the translated functions; the texts on tokens hold what each comes to.
-/
import Derived.Test.YtnkbbpmcjopicaaDoorRows
import Derived.Test.YtnkbbpmcjopicaaDoorCards
import Derived.Test.YtnkbbpmcjopicaaDoorTie
import Derived.Test.YtnkbbpmcjopicaaDoorPk20
import Derived.Test.YtnkbbpmcjopicaaDoorPk20
import Derived.WalkKit
import Derived.ProofKit
import Derived.OpenShut
import Derived.LaidMore
import Derived.SevenTiedAt
import Derived.Stop.Joined
import Derived.JoinedCond
import Derived.Deep.DeepHandedRow
import Derived.Deep.DeepWitnessRowRef
namespace Go.Proofs.YtnkbbpmcjopicaaDoor.typesKeeps
open Go.ChangeShapes Go.WideShapes Go.ChangeAt Go.RowKit Go.Eng
set_option linter.unusedVariables false

theorem own : ownKnob Tryd.prog.godebug = none := by kernel_rfl
theorem laidOut : laidOutB Tryd.prog = true := by kernel_rfl
theorem plainS : plainT Tryd.prog 20 9 = true := by kernel_rfl
theorem aggS : isAg Tryd.prog 9 = false := by kernel_rfl
theorem unS : Tryd.prog.underlying 9 = some .string := by kernel_rfl
theorem readS : Tryd.prog.readableRec 9 = true ∧ 9 < Tryd.prog.types.size := ⟨by kernel_rfl, of_decide_eq_true (by kernel_rfl)⟩
theorem str_of {H : Type} {h : AH} {cs : List Value} {d : DataW H} (hr : Rd' Tryd.prog h 9 cs d) : ∃ s, cs = [.string s] := by
  cases hr with
  | bool h' => rw [unS] at h'; cases h'
  | int h' n => rw [unS] at h'; cases h'
  | str h' => exact ⟨_, rfl⟩
  | snil h' => rw [unS] at h'; cases h'
  | sempty h' => rw [unS] at h'; cases h'
  | slice h' => rw [unS] at h'; cases h'
  | struct h' => rw [unS] at h'; cases h'
  | array h' => rw [unS] at h'; cases h'

set_option maxRecDepth 100000 in
theorem walk {H : Type} (enc : TypeId × Value → H) (W : World) (hT : TabOk Tryd.prog W.heap) (args : Array Value) (ds : List (DataW H)) (ps : List MemPlace) (hA : DataW.TrodAll enc Tryd.prog W 0 (fun _ => true) true [9, 9] args.toList ds ps)
    (hok : ∀ (j : Nat) (t : TypeId) (v : Value), [9, 9][j]? = some t → args.toList[j]? = some v → ∃ b, Value.okWide Tryd.prog W .any b t v) :
    Calls Tryd.prog 5 args W fun e W' => e = .returned (.bool true) ∧ Below W.heap.size W W' := by
  obtain ⟨h, r, avs, e1, e2, e3, e4, e5⟩ := opens_args (P := Tryd.prog) (W := W) [9, 9] args.toList ds ps (fun t ht => by simp at ht; subst ht; exact plainS) hA hok [] (fun _ => none) (Dr.empty hT)
  obtain ⟨v, w, rfl⟩ : ∃ v w, avs = [v, w] := by
    match avs, e3 with
    | [v, w], _ => exact ⟨v, w, rfl⟩
  obtain ⟨d, d2, rfl⟩ : ∃ d d2, ds = [d, d2] := by
    match ds, e4 with
    | [d, d2], _ => exact ⟨d, d2, rfl⟩
  have hr := e5 0 9 v d rfl rfl rfl
  have hr2 := e5 1 9 w d2 rfl rfl rfl
  unfold RdA at hr hr2
  rw [if_neg (by rw [aggS]; simp)] at hr hr2
  obtain ⟨s, hn⟩ := str_of hr
  obtain ⟨s2, hn2⟩ := str_of hr2
  have hv : v = .string s := by simpa using hn
  have hv2 : w = .string s2 := by simpa using hn2
  subst hv; subst hv2
  refine Gets.law Go.S11.hP (fn := Tryd.prog.funcs[5]!) (by kernel_rfl) (by kernel_rfl) ((show Gets Tryd.prog 5 [.string s, .string s2] h _ from ?_)) e1.1 e2
  rw [Go.Scn.tx_of s, Go.Scn.tx_of s2]
  exact (Go.S11.TypesKeeps_ok s.data.toList s2.data.toList h).mono fun _ _ _ ⟨_, e⟩ => e

/-! ### THE ROW's STEP -/
theorem read0 (os : Os) {H : Type} (enc : TypeId × Value → H) : ∃ places, DataW.whole enc Tryd.prog (((World.doorLaid Tryd.prog 400 os)).forCall (fun _ _ => 0) ⟨#[], #[.string ByteArray.empty, .string ByteArray.empty], []⟩).memory Tryd.f5.params.toList (OpenSpec.ofChange Rows.typesKeepsSpec).vars false (#[.string ByteArray.empty, .string ByteArray.empty] : Array Value).toList 8 = some ([.lit (.string []), .lit (.string [])], [], places) :=
  ⟨[], by kernel_rfl⟩
set_option maxRecDepth 100000 in
theorem lifted (os : Os) (started : os.Started) (H : Type) (enc : TypeId × Value → H) (F : Stop.Interp) :
    ReturnsInHanded {} Tryd.checked os 5 .any ((OpenSpec.ofChange Rows.typesKeepsSpec).preRow enc Tryd.prog Tryd.f5 Rows.typesKeepsRow.domain false Rows.typesKeepsRow.laid) (((OpenSpec.ofChange Rows.typesKeepsSpec).at F).post enc Tryd.prog Tryd.f5 false true false false) := by
  obtain ⟨places, hx⟩ := read0 os enc
  refine returnsInHanded_of_row (C := Tryd.checked) (s := OpenSpec.ofChange Rows.typesKeepsSpec) own started (by kernel_rfl) Tryd.func5
    (witness_row_atRef (enc := enc) (C := Tryd.checked) false (World.doorLaid Tryd.prog 400 os) #[.string ByteArray.empty, .string ByteArray.empty] rfl (by kernel_rfl) (by kernel_rfl) (by kernel_rfl)
      (OpenSpec.preRow_of_cond 8 hx (by kernel_rfl) (fun k hk => by cases hk) (by kernel_rfl) (Go.S11.door_met os _))) ?_
  intro W base args ds gs before hval0 hW _ _ _ hL hS _
  have hval : ∀ (j : Nat) t v, Tryd.f5.params[j]? = some t → args[j]? = some v → Value.okWide Tryd.prog W .any base t v := hval0
  have hW' := hW
  obtain ⟨p, q, hA0, hV, rfl, hfz, hnd⟩ := hW
  have hA : DataW.TrodAll enc Tryd.prog W 0 (fun _ => true) true Tryd.f5.params.toList args.toList ds p := hA0
  rw [Tryd.params5] at hA hval
  have hA1 : DataW.TrodAll enc Tryd.prog W 0 (fun _ => true) true [9, 9] args.toList ds p := hA
  obtain ⟨rfl, rfl⟩ := trodVars_none hV
  clear hA0 hval0
  simp only [List.append_nil] at hW'
  have hlt := hA1.lt
  refine (walk enc W (Go.S11.tab_of_laid hL hS) args ds p hA1 (fun j t v a b => ⟨base, hval j t v (by simpa using a) (by simpa using b)⟩)).mono fun e W' ⟨he, hg⟩ => ?_
  subst he
  have hA2 := trodAll_below laidOut hg [9, 9] args.toList ds p (fun t ht => by simp at ht; subst ht; exact readS) hA1 hlt
  obtain ⟨v0, v1, d0, d1, rfl, rfl⟩ : ∃ v0 v1 d0 d1, args = #[v0, v1] ∧ ds = [d0, d1] := by
    obtain ⟨v0, v1, d0, d1, _, _, h1, h2, _⟩ := trodAll_two hA1
    exact ⟨v0, v1, d0, d1, h1, h2⟩
  exact ⟨_, rfl, ⟨_, _, _, [], _, _, hW', trodAll_cons_mk (shut_bool Tryd.underlying4 _) trodAll_mk0, hA2, rfl, hg.frame _, fun h => by cases h⟩⟩

theorem over : Rows.typesKeepsRow.holds Tryd.pinned (OpenSpec.ofChange Rows.typesKeepsSpec) :=
  OpenClaim.holds_of_cond 5 Tryd.f5 rfl rfl rfl rfl rfl rfl rfl ⟨rfl, rfl, rfl, rfl, rfl⟩ rfl rfl rfl rfl rfl (by kernel_rfl) Tryd.func5 (by kernel_rfl)
    (of_decide_eq_true (by kernel_rfl)) (by unfold Func.isWrapper; first | (rw [if_pos (by decide +kernel)]; kernel_rfl) | (rw [if_neg (by decide +kernel)]; exact ⟨rfl, rfl⟩))
    (fun os started H enc _ F => by rw [OpenClaim.pre_eq_preRow]; exact lifted os started H enc F)

/-- ████ THE STATEMENT ████ -/
theorem proved : Rows.TypesKeepsCardSaid :=
  Claim7.holds_tied_plain_at .later [] [.data, .data, .data] true (true, "b9782bd2bf6a8b22620911d679b86d4a83912afe1beaa97693873587ce699ff5") true
    over (fun _ h => by cases h) (by kernel_rfl) (fun _ h => by cases h) typesKeeps_row_tie rfl ⟨rfl, rfl⟩ (by kernel_rfl) rfl
    (fun f fn hf hfn => by
      obtain rfl : f = 5 := Option.some.inj ((show Tryd.prog.funcNamed "loiter/loiterlaw11.TypesKeeps" = some 5 by kernel_rfl).symm.trans hf) |>.symm
      obtain rfl : fn = Tryd.f5 := (Option.some.inj (Tryd.func5.symm.trans hfn)).symm
      exact ⟨by kernel_rfl, fun j t ht => by
        rw [Tryd.params5] at ht
        have hm : t ∈ [9, 9] := by simpa using Array.mem_of_getElem? ht
        have hall : ([9, 9].all fun u => !Tryd.prog.wantsStandIn u) = true := by kernel_rfl
        exact (show Tryd.prog.wantsStandIn t = false by simpa using List.all_eq_true.1 hall t hm)⟩)
    (by kernel_rfl)
#print axioms proved
end Go.Proofs.YtnkbbpmcjopicaaDoor.typesKeeps
