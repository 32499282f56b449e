/-
  'loiter/loiterlaw17.ImageBack' returns true for every input that holds together at most 1048576 values and letters; the input reads as it did; the listed package variables tied to the program's text.
  The engine's machine walks the translated functions; the texts on images hold what each comes to.
-/
import Derived.Test.YtijanegfgaphoaaGreatDoorRows
import Derived.Test.YtijanegfgaphoaaGreatDoorCards
import Derived.Test.YtijanegfgaphoaaGreatDoorTie
import Derived.Test.YtijanegfgaphoaaGreatDoorPk24
import Derived.Test.YtijanegfgaphoaaGreatDoorPk23
import Derived.Test.YtijanegfgaphoaaGreatDoorPk24
import Derived.WalkKit
import Derived.ProofKit
import Derived.OpenShut
import Derived.LaidMore
import Derived.SevenTiedAt
import Derived.Stop.Joined
import Derived.JoinedCond
import Derived.Deep.DeepHandedRow
import Derived.Deep.DeepWitnessRowRef
namespace Go.Proofs.YtijanegfgaphoaaGreatDoor.imageBack
open Go.ChangeShapes Go.WideShapes Go.ChangeAt Go.RowKit Go.Eng
set_option linter.unusedVariables false

theorem own : ownKnob Tryz.prog.godebug = none := by kernel_rfl
theorem laidOut : laidOutB Tryz.prog = true := by kernel_rfl
theorem plains : ∀ t ∈ [26], plainT Tryz.prog 20 t = true := by
  intro t ht
  simp only [List.mem_cons, List.not_mem_nil, or_false] at ht
  subst ht; kernel_rfl
theorem agg26 : isAg Tryz.prog 26 = true := by kernel_rfl
theorem reads : ∀ t ∈ [26], Tryz.prog.readableRec t = true ∧ t < Tryz.prog.types.size := by
  intro t ht
  simp only [List.mem_cons, List.not_mem_nil, or_false] at ht
  subst ht
  exact ⟨by kernel_rfl, of_decide_eq_true (by kernel_rfl)⟩

/-- What arguments hold together. -/
def bulk (H : Type) : Bulk H where
  f := Rows.uptoBulk
  fa := Rows.uptoBulkAll
  one d := by
    cases d with
    | lit l => cases l <;> simp [Rows.uptoBulk]
    | nil => simp [Rows.uptoBulk]
    | ptr d => simp [Rows.uptoBulk]
    | slice elems spare => simp [Rows.uptoBulk]
    | agg parts => simp [Rows.uptoBulk]
    | iface t d => simp [Rows.uptoBulk]
    | map entries => simp [Rows.uptoBulk]
    | held h => simp [Rows.uptoBulk]
  str l := by simp [Rows.uptoBulk]
  sl a b := by simp [Rows.uptoBulk]
  ag a := by simp [Rows.uptoBulk]
  nil := by simp [Rows.uptoBulkAll]
  cons d r := by simp [Rows.uptoBulkAll]

set_option maxRecDepth 100000 in
theorem walk {H : Type} (enc : TypeId × Value → H) (W : World) (hT : TabOk Tryz.prog W.heap) (args : Array Value) (ds : List (DataW H)) (ps : List MemPlace) (hA : DataW.TrodAll enc Tryz.prog W 0 (fun _ => true) true [26] args.toList ds ps)
    (hok : ∀ (j : Nat) (t : TypeId) (v : Value), [26][j]? = some t → args.toList[j]? = some v → ∃ b, Value.okWide Tryz.prog W .any b t v) (hk : Rows.uptoSmall H ds = true) :
    Calls Tryz.prog 6 args W fun e W' => e = .returned (.bool true) ∧ Below W.heap.size W W' := by
  obtain ⟨h, r, avs, e1, e2, e3, e4, e5⟩ := opens_args (P := Tryz.prog) (W := W) [26] args.toList ds ps plains hA hok [] (fun _ => none) (Dr.empty hT)
  obtain ⟨v, rfl⟩ : ∃ v, avs = [v] := by
    match avs, e3 with
    | [v], _ => exact ⟨v, rfl⟩
  obtain ⟨d, rfl⟩ : ∃ d, ds = [d] := by
    match ds, e4 with
    | [d], _ => exact ⟨d, rfl⟩
  have hr := e5 0 26 v d rfl rfl rfl
  unfold RdA at hr
  rw [if_pos agg26] at hr
  obtain ⟨cs, rfl, hr⟩ := hr
  have h1 : Rows.uptoBulkAll [d] ≤ 1048576 := of_decide_eq_true hk
  have hB : (bulk H).f d ≤ 1048576 := Nat.le_trans ((bulk H).part (d := d) (l := [d]) (by simp)) h1
  obtain ⟨C, ts, vi, vc, vt, vp, vk, rfl, x, f, hS⟩ := Go.S17.image_of2 (bulk H) hr hB
  exact Gets.law Go.S17.hP Tryz.func6 (by kernel_rfl) ((Go.S17.ImageBack_ok x f hS).mono fun _ _ _ ⟨_, e⟩ => e) e1.1 e2

/-! ### THE ROW's STEP -/
theorem read0 (os : Os) {H : Type} (enc : TypeId × Value → H) : ∃ places, DataW.whole enc Tryz.prog (((World.doorLaid Tryz.prog 400 os)).forCall (fun _ _ => 0) ⟨#[], #[.agg #[.slice none 0 0, .slice none 0 0, .slice none 0 0, .slice none 0 0, .int .i64 0, .slice none 0 0]], []⟩).memory Tryz.f6.params.toList (Rows.OpenSpec.upto Rows.imageBackSpec).vars false (#[.agg #[.slice none 0 0, .slice none 0 0, .slice none 0 0, .slice none 0 0, .int .i64 0, .slice none 0 0]] : Array Value).toList 8 = some ([.agg [.nil, .nil, .nil, .nil, .lit (.int .i64 0), .nil]], [], places) :=
  ⟨[], by kernel_rfl⟩
set_option maxRecDepth 100000 in
theorem lifted (os : Os) (started : os.Started) (H : Type) (enc : TypeId × Value → H) (F : Stop.Interp) :
    ReturnsInHanded {} Tryz.checked os 6 .any ((Rows.OpenSpec.upto Rows.imageBackSpec).preRow enc Tryz.prog Tryz.f6 Rows.imageBackUptoRow.domain false Rows.imageBackUptoRow.laid) (((Rows.OpenSpec.upto Rows.imageBackSpec).at F).post enc Tryz.prog Tryz.f6 false true false false) := by
  obtain ⟨places, hx⟩ := read0 os enc
  refine returnsInHanded_of_row (C := Tryz.checked) (s := Rows.OpenSpec.upto Rows.imageBackSpec) own started (by kernel_rfl) Tryz.func6
    (witness_row_atRef (enc := enc) (C := Tryz.checked) false (World.doorLaid Tryz.prog 400 os) #[.agg #[.slice none 0 0, .slice none 0 0, .slice none 0 0, .slice none 0 0, .int .i64 0, .slice none 0 0]] rfl (by kernel_rfl) (by kernel_rfl) (by kernel_rfl)
      (OpenSpec.preRow_of_cond 8 hx (by kernel_rfl) (fun k hk => by cases hk; kernel_rfl) (by kernel_rfl) (Go.S17.door_met os _))) ?_
  intro W base args ds gs before hval0 hW _ hcond _ hL hS _
  have hk := hcond _ rfl
  have hval : ∀ (j : Nat) t v, Tryz.f6.params[j]? = some t → args[j]? = some v → Value.okWide Tryz.prog W .any base t v := hval0
  have hW' := hW
  obtain ⟨p, q, hA0, hV, rfl, hfz, hnd⟩ := hW
  have hA : DataW.TrodAll enc Tryz.prog W 0 (fun _ => true) true Tryz.f6.params.toList args.toList ds p := hA0
  rw [Tryz.params6] at hA hval
  have hA1 : DataW.TrodAll enc Tryz.prog W 0 (fun _ => true) true [26] args.toList ds p := hA
  obtain ⟨rfl, rfl⟩ := trodVars_none hV
  clear hA0 hval0
  simp only [List.append_nil] at hW' hk
  have hlt := hA1.lt
  refine (walk enc W (Go.S17.tab_of_laid hL hS) args ds p hA1 (fun j t v a b => ⟨base, hval j t v (by simpa using a) (by simpa using b)⟩) hk).mono fun e W' ⟨he, hg⟩ => ?_
  subst he
  have hA2 := trodAll_below laidOut hg [26] args.toList ds p reads hA1 hlt
  obtain ⟨v0, d0, rfl, rfl⟩ : ∃ v0 d0, args = #[v0] ∧ ds = [d0] := by
    obtain ⟨v0, d0, h1, h2, _⟩ := trodAll_one hA1
    exact ⟨v0, d0, h1, h2⟩
  exact ⟨_, rfl, ⟨_, _, _, [], _, _, hW', trodAll_cons_mk (shut_bool Tryz.underlying4 _) trodAll_mk0, hA2, rfl, hg.frame _, fun h => by cases h⟩⟩

theorem over : Rows.imageBackUptoRow.holds Tryz.pinned (Rows.OpenSpec.upto Rows.imageBackSpec) :=
  OpenClaim.holds_of_cond 6 Tryz.f6 rfl rfl rfl rfl rfl rfl rfl ⟨rfl, rfl, rfl, rfl, rfl⟩ rfl rfl rfl rfl rfl (by kernel_rfl) Tryz.func6 (by kernel_rfl)
    (of_decide_eq_true (by kernel_rfl)) (by unfold Func.isWrapper; first | (rw [if_pos (by decide +kernel)]; kernel_rfl) | (rw [if_neg (by decide +kernel)]; exact ⟨rfl, rfl⟩))
    (fun os started H enc _ F => by rw [OpenClaim.pre_eq_preRow]; exact lifted os started H enc F)

/-- ████ THE STATEMENT ████ -/
theorem proved : Rows.ImageBackUptoCardSaid :=
  Claim7.holds_tied_plain_at .later [] [.data, .data, .data] true (true, "4977acb685460c25c2a85e517dcd956b59843a9b5afb1d9d8a86d148c352826b") true
    over (fun _ h => by cases h) (by kernel_rfl) (fun _ h => by cases h) imageBackUpto_row_tie rfl ⟨rfl, rfl⟩ (by kernel_rfl) rfl
    (fun f fn hf hfn => by
      obtain rfl : f = 6 := Option.some.inj ((show Tryz.prog.funcNamed "loiter/loiterlaw17.ImageBack" = some 6 by kernel_rfl).symm.trans hf) |>.symm
      obtain rfl : fn = Tryz.f6 := (Option.some.inj (Tryz.func6.symm.trans hfn)).symm
      exact ⟨by kernel_rfl, fun j t ht => by
        rw [Tryz.params6] at ht
        have hm : t ∈ [26] := by simpa using Array.mem_of_getElem? ht
        have hall : ([26].all fun u => !Tryz.prog.wantsStandIn u) = true := by kernel_rfl
        exact (show Tryz.prog.wantsStandIn t = false by simpa using List.all_eq_true.1 hall t hm)⟩)
    (by kernel_rfl)
#print axioms proved
end Go.Proofs.YtijanegfgaphoaaGreatDoor.imageBack
