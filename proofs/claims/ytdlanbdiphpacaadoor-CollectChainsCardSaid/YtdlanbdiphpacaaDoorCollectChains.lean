/-
  'loiter/loiterlaw19.CollectChains' returns true for every input; the input reads as it did; the listed package variables tied to the program's text.
  The engine's machine walks the translated functions; the texts on collections hold what each comes to.
-/
import Derived.Test.YtdlanbdiphpacaaDoorRows
import Derived.Test.YtdlanbdiphpacaaDoorCards
import Derived.Test.YtdlanbdiphpacaaDoorTie
import Derived.Test.YtdlanbdiphpacaaDoorPk25
import Derived.Test.YtdlanbdiphpacaaDoorPk25
import Derived.WalkKit
import Derived.ProofKit
import Derived.OpenShut
import Derived.LaidMore
import Derived.SevenTiedAt
import Derived.Stop.Joined
namespace Go.Proofs.YtdlanbdiphpacaaDoor.collectChains
open Go.ChangeShapes Go.WideShapes Go.ChangeAt Go.RowKit Go.Eng
set_option linter.unusedVariables false

theorem own : ownKnob Tryd.prog.godebug = none := by kernel_rfl
theorem laidOut : laidOutB Tryd.prog = true := by kernel_rfl
theorem plain3 : plainT Tryd.prog 20 3 = true := by kernel_rfl
theorem agg3 : isAg Tryd.prog 3 = false := by kernel_rfl
theorem un3 : Tryd.prog.underlying 3 = some (.int .i64) := by kernel_rfl
theorem read3 : Tryd.prog.readableRec 3 = true ∧ 3 < Tryd.prog.types.size := ⟨by kernel_rfl, of_decide_eq_true (by kernel_rfl)⟩
theorem int_of {H : Type} {h : AH} {cs : List Value} {d : DataW H} (hr : Rd' Tryd.prog h 3 cs d) : ∃ n, cs = [iv n] := by
  cases hr with
  | bool h' => rw [un3] at h'; cases h'
  | int h' n => rw [un3] at h'; cases h'; exact ⟨n, rfl⟩
  | str h' => rw [un3] at h'; cases h'
  | snil h' => rw [un3] at h'; cases h'
  | sempty h' => rw [un3] at h'; cases h'
  | slice h' => rw [un3] at h'; cases h'
  | struct h' => rw [un3] at h'; cases h'
  | array h' => rw [un3] at h'; cases h'

set_option maxRecDepth 100000 in
theorem walk {H : Type} (enc : TypeId × Value → H) (W : World) (hT : TabOk Tryd.prog W.heap) (args : Array Value) (ds : List (DataW H)) (ps : List MemPlace) (hA : DataW.TrodAll enc Tryd.prog W 0 (fun _ => true) true [3, 3] args.toList ds ps)
    (hok : ∀ (j : Nat) (t : TypeId) (v : Value), [3, 3][j]? = some t → args.toList[j]? = some v → ∃ b, Value.okWide Tryd.prog W .any b t v) :
    Calls Tryd.prog 5 args W fun e W' => e = .returned (.bool true) ∧ Below W.heap.size W W' := by
  obtain ⟨h, r, avs, e1, e2, e3, e4, e5⟩ := opens_args (P := Tryd.prog) (W := W) [3, 3] args.toList ds ps (fun t ht => by simp at ht; subst ht; exact plain3) hA hok [] (fun _ => none) (Dr.empty hT)
  obtain ⟨v, v', rfl⟩ : ∃ v v', avs = [v, v'] := by
    match avs, e3 with
    | [v, v'], _ => exact ⟨v, v', rfl⟩
  obtain ⟨d, d', rfl⟩ : ∃ d d', ds = [d, d'] := by
    match ds, e4 with
    | [d, d'], _ => exact ⟨d, d', rfl⟩
  have hr := e5 0 3 v d rfl rfl rfl
  have hr' := e5 1 3 v' d' rfl rfl rfl
  unfold RdA at hr hr'
  rw [if_neg (by rw [agg3]; simp)] at hr hr'
  obtain ⟨n, hn⟩ := int_of hr
  obtain ⟨k, hk⟩ := int_of hr'
  have hv : v = .int .i64 n := by simpa using hn
  have hv' : v' = .int .i64 k := by simpa using hk
  subst hv
  subst hv'
  exact Gets.law Go.S19.hP Tryd.func5 (by kernel_rfl) (Go.S19.Chains_ok h n k) e1.1 e2

/-! ### THE ROW's STEP -/
set_option maxRecDepth 100000 in
theorem lifted (os : Os) (started : os.Started) (H : Type) (enc : TypeId × Value → H) :
    ReturnsInHanded {} Tryd.checked os 5 .any (fun w args => (Rows.collectChainsSpec.pre enc Tryd.prog Tryd.f5 [] false w args ∧ laidMetH Tryd.prog Go.S19.laidL w) ∧ sizedMet enc Tryd.prog Tryd.f5 (OpenSpec.ofChange Rows.collectChainsSpec) false w args)
      (Rows.collectChainsSpec.post enc Tryd.prog Tryd.f5 false true false false) := by
  refine returnsInHanded_of_change_and (C := Tryd.checked) (X := fun w _ => laidMetH Tryd.prog Go.S19.laidL w) (fun _ _ _ hh h => h.of_heap hh) own started (by kernel_rfl) Tryd.func5
    (ChangeSpec.witness_shaped (enc := enc) (C := Tryd.checked) (os := os) (X := fun w _ => laidMetH Tryd.prog Go.S19.laidL w) false (World.doorLaid Tryd.prog 400 os) #[.int .i64 0, .int .i64 0] 8 rfl (World.shaped_of_RefB (by kernel_rfl) (by kernel_rfl)) (by kernel_rfl) (by kernel_rfl) (by kernel_rfl) (Go.S19.door_met os _)) ?_
  intro W base args ds gs before hval0 hW _ _ hL _
  have hval : ∀ (j : Nat) t v, Tryd.f5.params[j]? = some t → args[j]? = some v → Value.okWide Tryd.prog W .any base t v := hval0
  have hW' := hW
  obtain ⟨p, q, hA0, hV, rfl, hfz, hnd⟩ := hW
  have hA : DataW.TrodAll enc Tryd.prog W 0 (fun _ => true) true Tryd.f5.params.toList args.toList ds p := hA0
  rw [Tryd.params5] at hA hval
  have hA1 : DataW.TrodAll enc Tryd.prog W 0 (fun _ => true) true [3, 3] args.toList ds p := hA
  obtain ⟨rfl, rfl⟩ := trodVars_none hV
  clear hA0 hval0
  simp only [List.append_nil] at hW'
  have hlt := hA1.lt
  refine (walk enc W (Go.S19.tab_of_laid hL) args ds p hA1 (fun j t v a b => ⟨base, hval j t v (by simpa using a) (by simpa using b)⟩)).mono fun e W' ⟨he, hg⟩ => ?_
  subst he
  have hA2 := trodAll_below laidOut hg [3, 3] args.toList ds p (fun t ht => by simp at ht; subst ht; exact read3) hA1 hlt
  obtain ⟨v0, v1, d0, d1, rfl, rfl⟩ : ∃ v0 v1 d0 d1, args = #[v0, v1] ∧ ds = [d0, d1] := by
    obtain ⟨v0, v1, d0, d1, _, _, h1, h2, _⟩ := trodAll_two hA1
    exact ⟨v0, v1, d0, d1, h1, h2⟩
  exact ⟨_, rfl, ⟨_, _, _, [], _, _, hW', trodAll_cons_mk (shut_bool Tryd.underlying4 _) trodAll_mk0, hA2, rfl, hg.frame _, fun h => by cases h⟩⟩

theorem over : Rows.collectChainsRow.holds Tryd.pinned (OpenSpec.ofChange Rows.collectChainsSpec) :=
  OpenClaim.holds_of_wide 5 Tryd.f5 rfl rfl rfl rfl rfl rfl rfl ⟨rfl, rfl, rfl, rfl, rfl⟩ rfl rfl rfl rfl rfl (by kernel_rfl) Tryd.func5 (by kernel_rfl)
    (of_decide_eq_true (by kernel_rfl)) (by unfold Func.isWrapper; first | (rw [if_pos (by decide +kernel)]; kernel_rfl) | (rw [if_neg (by decide +kernel)]; exact ⟨rfl, rfl⟩))
    (fun os started H enc _ => lifted os started H enc)

/-- ████ THE STATEMENT ████ -/
theorem proved : Rows.CollectChainsCardSaid :=
  Claim7.holds_tied_plain_at .later [] [.data, .data, .data] true (true, "3d1c41847716796221f6aac10a2322eeb56e8bbe2a5d195336c31ba05bdd9344") true
    over (fun _ h => by cases h) (by kernel_rfl) (fun _ h => by cases h) collectChains_row_tie rfl ⟨rfl, rfl⟩ (by kernel_rfl) rfl
    (fun f fn hf hfn => by
      obtain rfl : f = 5 := Option.some.inj ((show Tryd.prog.funcNamed "loiter/loiterlaw19.CollectChains" = some 5 by kernel_rfl).symm.trans hf) |>.symm
      obtain rfl : fn = Tryd.f5 := (Option.some.inj (Tryd.func5.symm.trans hfn)).symm
      exact ⟨by kernel_rfl, fun j t ht => by
        rw [Tryd.params5] at ht
        have hm : t ∈ [3, 3] := by simpa using Array.mem_of_getElem? ht
        have hall : ([3, 3].all fun u => !Tryd.prog.wantsStandIn u) = true := by kernel_rfl
        exact (show Tryd.prog.wantsStandIn t = false by simpa using List.all_eq_true.1 hall t hm)⟩)
    (by kernel_rfl)
#print axioms proved
end Go.Proofs.YtdlanbdiphpacaaDoor.collectChains
