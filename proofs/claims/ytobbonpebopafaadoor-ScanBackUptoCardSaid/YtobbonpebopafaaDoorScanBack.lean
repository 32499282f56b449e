/-
  'loiter/loiterlaw07.ScanBack' returns true for every input that holds together at most 1048576 values and letters; the input reads as it did; the listed package variables tied to the program's text.
  The engine's machine walks the translated functions; the texts on tokens hold what each comes to.
-/
import Derived.Test.YtobbonpebopafaaDoorRows
import Derived.Test.YtobbonpebopafaaDoorCards
import Derived.Test.YtobbonpebopafaaDoorTie
import Derived.Test.YtobbonpebopafaaDoorPk21
import Derived.Test.YtobbonpebopafaaDoorPk20
import Derived.WalkKit
import Derived.ProofKit
import Derived.OpenShut
import Derived.LaidMore
import Derived.SevenTiedAt
import Derived.Stop.Joined
import Derived.JoinedCond
import Derived.Deep.DeepHandedRow
import Derived.Deep.DeepWitnessRowRef
namespace Go.Proofs.YtobbonpebopafaaDoor.scanBack
open Go.ChangeShapes Go.WideShapes Go.ChangeAt Go.RowKit Go.Eng
set_option linter.unusedVariables false

theorem own : ownKnob Tryd.prog.godebug = none := by kernel_rfl
theorem laidOut : laidOutB Tryd.prog = true := by kernel_rfl
theorem plains : ∀ t ∈ [9, 23], plainT Tryd.prog 20 t = true := by
  intro t ht
  simp only [List.mem_cons, List.not_mem_nil, or_false] at ht
  rcases ht with rfl | rfl <;> kernel_rfl
theorem agg23 : isAg Tryd.prog 23 = false := by kernel_rfl
theorem agg9 : isAg Tryd.prog 9 = false := by kernel_rfl
theorem reads : ∀ t ∈ [9, 23], Tryd.prog.readableRec t = true ∧ t < Tryd.prog.types.size := by
  intro t ht
  simp only [List.mem_cons, List.not_mem_nil, or_false] at ht
  rcases ht with rfl | rfl
  · exact ⟨by kernel_rfl, of_decide_eq_true (by kernel_rfl)⟩
  · exact ⟨by kernel_rfl, of_decide_eq_true (by kernel_rfl)⟩

/-- What arguments hold together. -/
def bulk (H : Type) : Bulk H where
  f := Rows.uptoBulk
  fa := Rows.uptoBulkAll
  one d := by
    cases d with
    | lit l => cases l <;> simp [Rows.uptoBulk]
    | nil => simp [Rows.uptoBulk]
    | ptr d => simp [Rows.uptoBulk]
    | slice elems spare => simp [Rows.uptoBulk]
    | agg parts => simp [Rows.uptoBulk]
    | iface t d => simp [Rows.uptoBulk]
    | map entries => simp [Rows.uptoBulk]
    | held h => simp [Rows.uptoBulk]
  str l := by simp [Rows.uptoBulk]
  sl a b := by simp [Rows.uptoBulk]
  ag a := by simp [Rows.uptoBulk]
  nil := by simp [Rows.uptoBulkAll]
  cons d r := by simp [Rows.uptoBulkAll]

set_option maxRecDepth 100000 in
theorem walk {H : Type} (enc : TypeId × Value → H) (W : World) (hT : TabOk Tryd.prog W.heap) (args : Array Value) (ds : List (DataW H)) (ps : List MemPlace) (hA : DataW.TrodAll enc Tryd.prog W 0 (fun _ => true) true [9, 23] args.toList ds ps)
    (hok : ∀ (j : Nat) (t : TypeId) (v : Value), [9, 23][j]? = some t → args.toList[j]? = some v → ∃ b, Value.okWide Tryd.prog W .any b t v) (hk : Rows.uptoSmall H ds = true) :
    Calls Tryd.prog 7 args W fun e W' => e = .returned (.bool true) ∧ Below W.heap.size W W' := by
  obtain ⟨h, r, avs, e1, e2, e3, e4, e5⟩ := opens_args (P := Tryd.prog) (W := W) [9, 23] args.toList ds ps plains hA hok [] (fun _ => none) (Dr.empty hT)
  obtain ⟨v, v2, rfl⟩ : ∃ v v2, avs = [v, v2] := by
    match avs, e3 with
    | [v, v2], _ => exact ⟨v, v2, rfl⟩
  obtain ⟨d, d2, rfl⟩ : ∃ d d2, ds = [d, d2] := by
    match ds, e4 with
    | [d, d2], _ => exact ⟨d, d2, rfl⟩
  have hr := e5 0 9 v d rfl rfl rfl
  have hr2 := e5 1 23 v2 d2 rfl rfl rfl
  unfold RdA at hr hr2
  rw [if_neg (by rw [agg9]; simp)] at hr
  rw [if_neg (by rw [agg23]; simp)] at hr2
  have h1 : Rows.uptoBulkAll [d, d2] ≤ 1048576 := of_decide_eq_true hk
  have hB2 : (bulk H).f d2 ≤ 1048576 := Nat.le_trans ((bulk H).part (d := d2) (l := [d, d2]) (by simp)) h1
  obtain ⟨ts, o1, o2, o3⟩ := Go.S07.toks_of (bulk H) hr2 hB2
  have hB : (bulk H).f d ≤ 1048576 := Nat.le_trans ((bulk H).part (d := d) (l := [d, d2]) (by simp)) h1
  obtain ⟨s, es, gs⟩ := rdS (bulk H) Go.S07.u_strT hr
  obtain rfl : v = .string s := by simpa using es
  refine Gets.law Go.S07.hP (fn := Tryd.prog.funcs[7]!) (by kernel_rfl) (by kernel_rfl) ((show Gets Tryd.prog 7 [.string s, v2] h _ from ?_)) e1.1 e2
  rw [Go.Scn.tx_of s]
  exact (Go.S07.ScanBack_ok s.data.toList ts h v2 o1 (M := 1048576) (by omega) (by omega) o2).mono fun _ _ _ ⟨_, e⟩ => e

/-! ### THE ROW's STEP -/
theorem read0 (os : Os) {H : Type} (enc : TypeId × Value → H) : ∃ places, DataW.whole enc Tryd.prog (((World.doorLaid Tryd.prog 400 os)).forCall (fun _ _ => 0) ⟨#[], #[.string ByteArray.empty, .slice none 0 0], []⟩).memory Tryd.f7.params.toList (Rows.OpenSpec.upto Rows.scanBackSpec).vars false (#[.string ByteArray.empty, .slice none 0 0] : Array Value).toList 8 = some ([.lit (.string []), .nil], [], places) :=
  ⟨[], by kernel_rfl⟩
set_option maxRecDepth 100000 in
theorem lifted (os : Os) (started : os.Started) (H : Type) (enc : TypeId × Value → H) (F : Stop.Interp) :
    ReturnsInHanded {} Tryd.checked os 7 .any ((Rows.OpenSpec.upto Rows.scanBackSpec).preRow enc Tryd.prog Tryd.f7 Rows.scanBackUptoRow.domain false Rows.scanBackUptoRow.laid) (((Rows.OpenSpec.upto Rows.scanBackSpec).at F).post enc Tryd.prog Tryd.f7 false true false false) := by
  obtain ⟨places, hx⟩ := read0 os enc
  refine returnsInHanded_of_row (C := Tryd.checked) (s := Rows.OpenSpec.upto Rows.scanBackSpec) own started (by kernel_rfl) Tryd.func7
    (witness_row_atRef (enc := enc) (C := Tryd.checked) false (World.doorLaid Tryd.prog 400 os) #[.string ByteArray.empty, .slice none 0 0] rfl (by kernel_rfl) (by kernel_rfl) (by kernel_rfl)
      (OpenSpec.preRow_of_cond 8 hx (by kernel_rfl) (fun k hk => by cases hk; kernel_rfl) (by kernel_rfl) (Go.S07.door_met os _))) ?_
  intro W base args ds gs before hval0 hW _ hcond _ hL _ _
  have hk := hcond _ rfl
  have hval : ∀ (j : Nat) t v, Tryd.f7.params[j]? = some t → args[j]? = some v → Value.okWide Tryd.prog W .any base t v := hval0
  have hW' := hW
  obtain ⟨p, q, hA0, hV, rfl, hfz, hnd⟩ := hW
  have hA : DataW.TrodAll enc Tryd.prog W 0 (fun _ => true) true Tryd.f7.params.toList args.toList ds p := hA0
  rw [Tryd.params7] at hA hval
  have hA1 : DataW.TrodAll enc Tryd.prog W 0 (fun _ => true) true [9, 23] args.toList ds p := hA
  obtain ⟨rfl, rfl⟩ := trodVars_none hV
  clear hA0 hval0
  simp only [List.append_nil] at hW' hk
  have hlt := hA1.lt
  refine (walk enc W (Go.S07.tab_of_laid hL) args ds p hA1 (fun j t v a b => ⟨base, hval j t v (by simpa using a) (by simpa using b)⟩) hk).mono fun e W' ⟨he, hg⟩ => ?_
  subst he
  have hA2 := trodAll_below laidOut hg [9, 23] args.toList ds p reads hA1 hlt
  obtain ⟨v0, v1, d0, d1, rfl, rfl⟩ : ∃ v0 v1 d0 d1, args = #[v0, v1] ∧ ds = [d0, d1] := by
    obtain ⟨v0, v1, d0, d1, _, _, h1, h2, _⟩ := trodAll_two hA1
    exact ⟨v0, v1, d0, d1, h1, h2⟩
  exact ⟨_, rfl, ⟨_, _, _, [], _, _, hW', trodAll_cons_mk (shut_bool Tryd.underlying4 _) trodAll_mk0, hA2, rfl, hg.frame _, fun h => by cases h⟩⟩

theorem over : Rows.scanBackUptoRow.holds Tryd.pinned (Rows.OpenSpec.upto Rows.scanBackSpec) :=
  OpenClaim.holds_of_cond 7 Tryd.f7 rfl rfl rfl rfl rfl rfl rfl ⟨rfl, rfl, rfl, rfl, rfl⟩ rfl rfl rfl rfl rfl (by kernel_rfl) Tryd.func7 (by kernel_rfl)
    (of_decide_eq_true (by kernel_rfl)) (by unfold Func.isWrapper; first | (rw [if_pos (by decide +kernel)]; kernel_rfl) | (rw [if_neg (by decide +kernel)]; exact ⟨rfl, rfl⟩))
    (fun os started H enc _ F => by rw [OpenClaim.pre_eq_preRow]; exact lifted os started H enc F)

/-- ████ THE STATEMENT ████ -/
theorem proved : Rows.ScanBackUptoCardSaid :=
  Claim7.holds_tied_plain_at .later [] [.data, .data, .data, .sentinel, .sentinel] true (true, "85456cd552a48ad719f6180daded1e9e8e2dc8920957b8bcdfa8c3f31fe233f4") true
    over (fun _ h => by cases h) (by kernel_rfl) (fun _ h => by cases h) scanBackUpto_row_tie rfl ⟨rfl, rfl⟩ (by kernel_rfl) rfl
    (fun f fn hf hfn => by
      obtain rfl : f = 7 := Option.some.inj ((show Tryd.prog.funcNamed "loiter/loiterlaw07.ScanBack" = some 7 by kernel_rfl).symm.trans hf) |>.symm
      obtain rfl : fn = Tryd.f7 := (Option.some.inj (Tryd.func7.symm.trans hfn)).symm
      exact ⟨by kernel_rfl, fun j t ht => by
        rw [Tryd.params7] at ht
        have hm : t ∈ [9, 23] := by simpa using Array.mem_of_getElem? ht
        have hall : ([9, 23].all fun u => !Tryd.prog.wantsStandIn u) = true := by kernel_rfl
        exact (show Tryd.prog.wantsStandIn t = false by simpa using List.all_eq_true.1 hall t hm)⟩)
    (by kernel_rfl)
#print axioms proved
end Go.Proofs.YtobbonpebopafaaDoor.scanBack
